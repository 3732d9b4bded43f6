/-
  Texts of the claim, joined: Made2, LawExpr, Plain2, Grow3.
-/
import Derived.Test.YtfjlglefodndjaaGreatDoorCe17
import Derived.Test.YtfjlglefodndjaaGreatDoorCe16
namespace Go.Proofs.YtfjlglefodndjaaGreatDoor
open Go.RowKit

/-- An expression of at most a depth over a schema and names, as the generator makes it. -/
def MadeE (attrs : List Attr) (names : List ByteArray) : Nat → Ex → Prop
  | 0, _ => False
  | d + 1, e => AtomOf attrs names e ∨ ((e.op = 6 ∧ e.args.length = 1 ∨ (e.op = 7 ∨ e.op = 8) ∧ 2 ≤ e.args.length ∧ e.args.length ≤ 3) ∧ e.name = ⟨#[]⟩ ∧ e.words = [] ∧ e.lo = 0 ∧ e.hi = 0 ∧ ∀ x ∈ e.args, MadeE attrs names d x)
theorem MadeE.atom {attrs : List Attr} {names : List ByteArray} {d : Nat} {e : Ex} (h : AtomOf attrs names e) (hd : 0 < d) : MadeE attrs names d e := by
  obtain ⟨d, rfl⟩ : ∃ k, d = k + 1 := ⟨d - 1, by omega⟩
  exact Or.inl h
theorem MadeQ.mono {P P' : Ex → Prop} {w0 : World} {bd : Nat} {M : List Nat} {w : World} {e : Ending} {w' : World} (h : MadeQ P w0 bd M w e w') (hp : ∀ x, P x → P' x) : MadeQ P' w0 bd M w e w' := by
  obtain ⟨x, v, h1, h2, h3⟩ := h
  exact ⟨x, v, h1, hp x h2, h3⟩

/-- What the operations of 'e.Args = append(e.Args, d.Expr(s, names, deep-1))' leave. -/
def Rd15 (attrs : List Attr) (names : List ByteArray) (d be bd : Nat) (v : Value) (a : Option Addr) (n c : Nat) (an : Option Addr) (nn cn : Nat) (j : Nat) (xs : List ExV) (K : List Nat) (wr : World) : Nat → Value → World → Prop
  | 0, u, _ => u = .pointer (some ⟨be, 5, none⟩)
  | 1, u, _ => u = v
  | 2, u, _ => u = .pointer (some ⟨bd, 0, none⟩)
  | 3, u, _ => u = .agg #[.slice a n c]
  | 4, u, _ => u = .slice an nn cn
  | 5, u, _ => u = .int .i64 ((d : Int) + 1)
  | 6, u, _ => u = .int .i64 (d : Int)
  | 7, u, W => ∃ (e : Ex) (x : ExV), u = x.val ∧ MadeE attrs names d e ∧ IsEx (mask W K) e x.val
  | 8, u, W => ∃ (x0 : Nat) (e : Ex) (x : ExV), u = .slice (some ⟨x0, 0, none⟩) 1 1 ∧ W.heap[x0]? = some (.cells x.cells.toArray 29 (0, 0)) ∧ MadeE attrs names d e ∧ IsEx (mask W K) e x.val ∧ W.ownsRow (be + 1) 29 6 v j (xs.flatMap ExV.cells)
  | 9, u, W => ∃ (g cap : Nat) (e : Ex) (x : ExV), u = .slice (some ⟨g, 0, none⟩) (j + 1) cap ∧ W.ownsRow (be + 1) 29 6 (.slice (some ⟨g, 0, none⟩) (j + 1) cap) (j + 1) ((xs ++ [x]).flatMap ExV.cells) ∧ MadeE attrs names d e ∧ IsEx (mask W (K ++ [g])) e x.val ∧ (v.ownBlock = some g ∨ wr.heap.size ≤ g)
  | 10, u, _ => u = .pointer (some ⟨be, 5, none⟩)
  | _, _, _ => True
def E15 (k : Nat) (W W' : World) : Prop := k = 7 ∨ k = 8 ∨ k = 9 ∨ W = W'
def G15 (v : Value) (w0 wr : World) (bd : Nat) (L : List Nat) (W : World) : Prop := Chg (bd :: rowOf v) wr W ∧ DeckAt w0 W bd ∧ (9 ∉ L → Chg [bd] wr W)
theorem rd15_keeps {ops : Array Oper} {attrs : List Attr} {names : List ByteArray} {d be bd : Nat} {v : Value} {a : Option Addr} {n c : Nat} {an : Option Addr} {nn cn j : Nat} {xs : List ExV} {K : List Nat} {wr : World}
    (hops : (!outlasts ops 11 [9, 10] 7 8 && !outlasts ops 11 [9, 10] 7 9 && !outlasts ops 11 [9, 10] 8 7 && !outlasts ops 11 [9, 10] 8 9 && !outlasts ops 11 [9, 10] 9 7 && !outlasts ops 11 [9, 10] 9 8) = true) :
    ∀ i k u W W', i < 11 → k < 11 → i ≠ k → outlasts ops 11 [9, 10] i k = true → Rd15 attrs names d be bd v a n c an nn cn j xs K wr i u W → E15 k W W' → Rd15 attrs names d be bd v a n c an nn cn j xs K wr i u W' := by
  intro i k u W W' hi hk hne ho hR hE
  simp only [Bool.and_eq_true, Bool.not_eq_true'] at hops
  obtain ⟨⟨⟨⟨⟨q1, q2⟩, q3⟩, q4⟩, q5⟩, q6⟩ := hops
  have hi' : i = 0 ∨ i = 1 ∨ i = 2 ∨ i = 3 ∨ i = 4 ∨ i = 5 ∨ i = 6 ∨ i = 7 ∨ i = 8 ∨ i = 9 ∨ i = 10 := by omega
  have key : ∀ (h : i = 7 ∨ i = 8 ∨ i = 9), W = W' := by
    intro h
    rcases hE with rfl | rfl | rfl | e
    · rcases h with rfl | rfl | rfl
      · exact absurd rfl hne
      · rw [q3] at ho; cases ho
      · rw [q5] at ho; cases ho
    · rcases h with rfl | rfl | rfl
      · rw [q1] at ho; cases ho
      · exact absurd rfl hne
      · rw [q6] at ho; cases ho
    · rcases h with rfl | rfl | rfl
      · rw [q2] at ho; cases ho
      · rw [q4] at ho; cases ho
      · exact absurd rfl hne
    · exact e
  rcases hi' with rfl | rfl | rfl | rfl | rfl | rfl | rfl | rfl | rfl | rfl | rfl
  case inr.inr.inr.inr.inr.inr.inr.inl => rw [← key (by simp)]; exact hR
  case inr.inr.inr.inr.inr.inr.inr.inr.inl => rw [← key (by simp)]; exact hR
  case inr.inr.inr.inr.inr.inr.inr.inr.inr.inl => rw [← key (by simp)]; exact hR
  all_goals exact hR

/-- After j rounds: j arguments have been made. -/
def ArgsI (attrs : List Attr) (names : List ByteArray) (d : Nat) (op k0 : Int) (be bd : Nat) (K0 : List Nat) (w0 wa : World) (k : Value) (wr : World) : Prop := ∃ (l : List Ex) (xs : List ExV) (v : Value), (l.length : Int) ≤ k0 ∧ k = .int .i64 (k0 - l.length) ∧ (∀ e ∈ l, MadeE attrs names d e) ∧
  wr.heap[be]? = some (.cells #[.int .i64 op, .string ⟨#[]⟩, .slice none 0 0, .int .i64 0, .int .i64 0, v] 29 (0, 0)) ∧ wr.ownsRow (be + 1) 29 6 v l.length (xs.flatMap ExV.cells) ∧ ExsR (mask wr (K0 ++ rowOf v)) l xs ∧ Chg [bd] wa wr ∧ DeckAt w0 wr bd

def notV (g : Nat) : ExV := ⟨6, ⟨#[]⟩, none, 0, 0, 0, 0, some ⟨g, 0, none⟩, 1, 1⟩
theorem not_fin {attrs : List Attr} {names : List ByteArray} {d : Nat} {w0 w W : World} {bd B : Nat} {M : List Nat} {v : ExV} {x : Ex} (hc : Chg [bd] w W) (hd : DeckAt w0 W bd) (hB : w.heap.size ≤ B) (hBW : B < W.heap.size) (hbd : bd < w.heap.size) (hm : MadeE attrs names d x) (hx : IsEx (mask W (B :: M)) x v.val) (hM : ∀ y ∈ M, y < W.heap.size) :
    MadeQ (MadeE attrs names (d + 1)) w0 bd M w (.returned (notV W.heap.size).val) ((put6 W B (notV W.heap.size)).alloc (.cells v.cells.toArray 29)) := by
  have h0 : w0.heap.size ≤ bd := by obtain ⟨_, _, _, _, _, _, _, _, _, h⟩ := hd; exact h
  have hp := put6_chg W B (notV W.heap.size) (N := B :: M) (by simp)
  have hp1 := put6_chg W B (notV W.heap.size) (N := [B]) (by simp)
  have hs := put6_size W B (notV W.heap.size)
  generalize put6 W B (notV W.heap.size) = W6 at *
  refine ⟨.mk 6 ⟨#[]⟩ [] 0 0 [x], notV W.heap.size, rfl, ?_, ?_, ?_, ?_⟩
  · exact Or.inr ⟨Or.inl ⟨rfl, rfl⟩, rfl, rfl, rfl, rfl, fun y hy => by simp only [Ex.args, List.mem_singleton] at hy; subst hy; exact hm⟩
  · refine isEx_not (t := 29) (x := v) (alloc_at hs.symm) (fun h => by have := hM _ h; omega) ?_
    exact hx.mono ((hp.alloc _).sub.trans (mask_less _ (fun y hy => List.mem_cons_of_mem _ hy)))
  · exact hd.chg (hp1.alloc _) (by simp; omega) (by simp; omega)
  · exact hc.trans (hp1.alloc _) (by intro y hy; simp at hy; subst hy; exact Or.inr hB)

set_option maxRecDepth 100000 in
set_option maxHeartbeats 8000000 in
theorem dexpr_calls (attrs : List Attr) (names : List ByteArray) (hok : ∀ a ∈ attrs, OkAttr a) (hne : attrs ≠ []) (hl : attrs.length ≤ 1000) (hnl : names.length ≤ 1000) : ∀ (d : Nat), d ≤ 100 → ∀ {w0 w : World} {bd : Nat} (_ : DeckAt w0 w bd) (a : Option Addr) (n c : Nat) (an : Option Addr) (nn cn : Nat) (M : List Nat) (_ : IsSchema (mask w [bd]) attrs (.agg #[.slice a n c])) (_ : IsStrs (mask w [bd]) names an nn cn) (_ : ∀ y ∈ M, y < w.heap.size),
    Calls Tryz.prog 8 #[.pointer (some ⟨bd, 0, none⟩), .agg #[.slice a n c], .slice an nn cn, .int .i64 ((d : Int) + 1)] w (MadeQ (MadeE attrs names (d + 1)) w0 bd M w) := by
  intro d
  induction d using Nat.strongRecOn with
  | _ d ih =>
    intro hd100 w0 w bd hd a n c an nn cn M hs hn hM
    have IH := Lib.hid ih
    have HS := Lib.hid hs
    have HN := Lib.hid hn
    have HM := Lib.hid hM
    have HOK := Lib.hid hok
    have hbd : bd < w.heap.size := by obtain ⟨_, _, _, _, hb, _⟩ := hd; exact blk_lt hb
    have hbd0 : w0.heap.size ≤ bd := by obtain ⟨_, _, _, _, _, _, _, _, _, h⟩ := hd; exact h
    have HDW := Lib.hid (hd.ext (((Ext.refl w).alloc (.cells #[.slice a n c] 24)).alloc (.cells exV0.cells.toArray 29)))
    have HB1 := Lib.hid (blk_alloc (o' := .cells exV0.cells.toArray 29) (alloc_new w (.cells #[.slice a n c] 24)))
    have HB2 := Lib.hid (alloc_at (w := w.alloc (.cells #[.slice a n c] 24)) (o := .cells exV0.cells.toArray 29) (n := w.heap.size + 1) (by simp))
    have HE2 := Lib.hid (fun (W : World) (h : Chg [bd] ((w.alloc (.cells #[.slice a n c] 24)).alloc (.cells exV0.cells.toArray 29)) W) => (((Chg.refl [bd] w).alloc (.cells #[.slice a n c] 24)).alloc (.cells exV0.cells.toArray 29)).then h)
    clear ih hs hn hM hd hok
    go_enter Tryz.func8, Tryz.ntmps8
    go_wp2_with fail
    refine (next_calls HDW.out _ (by omega) (by omega)).mono ?_
    rintro r w1 ⟨r1, rfl, hr0, hr1, hd1, hc1⟩
    have HD1 := Lib.hid hd1
    have HC1 := Lib.hid (HE2.out _ hc1)
    have HB11 := Lib.hid (hc1.blk HB1.out (by simp; omega))
    have HB21 := Lib.hid (hc1.blk HB2.out (by simp; omega))
    clear hd1 hc1 HDW HB1 HB2 HE2
    have hz1 := HC1.out.size
    have hzb := blk_lt HB21.out
    have cs0 := blk_cell HB11.out 0
    simp at cs0
    by_cases hleaf : d = 0 ∨ r1 < 4
    · rcases hleaf with hd0 | hr4
      case' inl =>
        have t1 : decide ((d : Int) + 1 < 2) = true := by simp; omega
        go_wp2_with fail
      case' inr =>
        cases t1 : decide ((d : Int) + 1 < 2)
        all_goals
          have t2 : decide (r1 < 4) = true := by simpa using hr4
          go_wp2_with fail
      all_goals
        refine (next_calls HD1.out _ (by omega) (by omega)).mono ?_
        rintro r w2 ⟨r2, rfl, hs0, hs1, hd2, hc2⟩
        have HD2 := Lib.hid hd2
        have HC2 := Lib.hid (HC1.out.then hc2)
        have HB12 := Lib.hid (hc2.blk HB11.out (by simp; omega))
        have HB22 := Lib.hid (hc2.blk HB21.out (by simp; omega))
        clear hd2 hc2 cs0
        have cs0 := blk_cell HB12.out 0
        simp at cs0
        have hz2 := blk_lt HB22.out
        have hb2 := HB22.out
        unfold exV0 ExV.cells at hb2
        obtain ⟨b0, b1, b2, b3, b4, b5, bf⟩ := blk6 hb2
        clear hb2
        by_cases h10 : r2 = 10
        · subst h10
          go_wp2_with fail
          refine bodyPost_ret (v := (ExV.mk 1 ⟨#[]⟩ none 0 0 0 0 none 0 0).val) (by simp [results, Tryz.results8, go_sem, ExV.val, exV, b0, b1, b2, b3, b4, b5]) rfl ?_
          exact made_fin (e := .mk 1 ⟨#[]⟩ [] 0 0 []) (x := ⟨1, ⟨#[]⟩, none, 0, 0, 0, 0, none, 0, 0⟩) HC2.out HD2.out (by omega) hbd (MadeE.atom ⟨rfl, Or.inl ⟨rfl, rfl, rfl, rfl, rfl⟩⟩ (by omega)) (isEx_plain _ 1 0 0 ⟨#[]⟩)
        · have e10 : (r2 == 10) = false := by simpa using h10
          by_cases h11 : r2 = 11
          · subst h11
            go_wp2_with fail
            refine bodyPost_ret (v := (ExV.mk 2 ⟨#[]⟩ none 0 0 0 0 none 0 0).val) (by simp [results, Tryz.results8, go_sem, ExV.val, exV, b0, b1, b2, b3, b4, b5]) rfl ?_
            exact made_fin (e := .mk 2 ⟨#[]⟩ [] 0 0 []) (x := ⟨2, ⟨#[]⟩, none, 0, 0, 0, 0, none, 0, 0⟩) HC2.out HD2.out (by omega) hbd (MadeE.atom ⟨rfl, Or.inr (Or.inl ⟨rfl, rfl, rfl, rfl, rfl⟩)⟩ (by omega)) (isEx_plain _ 2 0 0 ⟨#[]⟩)
          · have e11 : (r2 == 11) = false := by simpa using h11
            go_wp2_with fail
            refine (atom_calls HD2.out attrs names a n c an nn cn ((w.heap.size + 1) :: M) (HS.out.mono HC2.out.sub) (HN.out.mono HC2.out.sub) HOK.out hne hl hnl (fun q hq => by
              rcases List.mem_cons.1 hq with rfl | hq
              · exact hz2
              · have := HM.out q hq; have := HC2.out.size; omega)).mono ?_
            rintro r w3 ⟨x, v, rfl, hat, hix, hd3, hc3⟩
            have HAT := Lib.hid hat
            have HIX := Lib.hid hix
            have HD3 := Lib.hid hd3
            have HC3 := Lib.hid (HC2.out.then hc3)
            have hb3 := hc3.blk HB22.out (by simp; omega)
            clear hat hix hd3 hc3 b0 b1 b2 b3 b4 b5 bf cs0
            have hz3 := blk_lt hb3
            unfold exV0 ExV.cells at hb3
            obtain ⟨b0, b1, b2, b3, b4, b5, bf⟩ := blk6 hb3
            clear hb3
            unfold ExV.val exV
            go_wp2_with fail
            refine bodyPost_ret (v := v.val) (by simp [results, Tryz.results8, go_sem, ExV.val, exV, b0, b1, b2, b3, b4, b5]) rfl ?_
            exact made_fin (e := x) (x := v) HC3.out HD3.out (by omega) hbd (MadeE.atom HAT.out (by omega)) HIX.out
    · obtain ⟨d', rfl⟩ : ∃ d', d = d' + 1 := ⟨d - 1, by omega⟩
      have t1 : decide (((d' + 1 : Nat) : Int) + 1 < 2) = false := by simp; omega
      have t2 : decide (r1 < 4) = false := by simp; omega
      have hr4 : 4 ≤ r1 := by omega
      clear hleaf
      by_cases h6 : r1 < 6
      · have t3 : decide (r1 < 6) = true := by simpa using h6
        go_wp2_with fail
        refine (IH.out d' (by omega) (by omega) HD1.out a n c an nn cn ((w.heap.size + 1) :: M) (HS.out.mono HC1.out.sub) (HN.out.mono HC1.out.sub) (fun q hq => by
          rcases List.mem_cons.1 hq with rfl | hq
          · exact hzb
          · have := HM.out q hq; omega)).mono ?_
        rintro r w2 ⟨x, v, rfl, hmx, hix, hd2, hc2⟩
        have HMX := Lib.hid hmx
        have HIX := Lib.hid hix
        have HD2 := Lib.hid hd2
        have HC2 := Lib.hid (HC1.out.then hc2)
        have HB22 := Lib.hid (hc2.blk HB21.out (by simp; omega))
        have hz2 := blk_lt HB22.out
        have hb2 := HB22.out
        unfold exV0 ExV.cells at hb2
        clear hmx hix hd2 hc2 cs0
        obtain ⟨b0, b1, b2, b3, b4, b5, bf⟩ := blk6 hb2
        clear hb2
        have HFIN := Lib.hid (not_fin HC2.out HD2.out (show w.heap.size ≤ w.heap.size + 1 by omega) hz2 hbd HMX.out HIX.out (fun q hq => by have := HM.out q hq; have := HC2.out.size; omega))
        unfold ExV.val exV
        go_wp2_with fail
        refine bodyPost_ret (v := (notV w2.heap.size).val) (by simp [results, Tryz.results8, go_sem, notV, ExV.val, exV, b0, b1, b2, b3, b4, b5, hz2]) rfl ?_
        exact HFIN.out
      · have t3 : decide (r1 < 6) = false := by simpa using h6
        have HNB := Lib.hid (alloc_new w1 (.cells #[.int .i64 (r1 + 1), .string ⟨#[]⟩, .slice none 0 0, .int .i64 0, .int .i64 0, .slice none 0 0] 29))
        have HEB := Lib.hid (fun (W : World) (h : Chg [bd] (w1.alloc (.cells #[.int .i64 (r1 + 1), .string ⟨#[]⟩, .slice none 0 0, .int .i64 0, .int .i64 0, .slice none 0 0] 29)) W) => ((Chg.refl [bd] w1).alloc (.cells #[.int .i64 (r1 + 1), .string ⟨#[]⟩, .slice none 0 0, .int .i64 0, .int .i64 0, .slice none 0 0] 29)).then h)
        go_wp2_with fail
        refine (range_calls (HD1.out.ext ((Ext.refl w1).alloc _)) _ _ (by omega) (by omega) (by omega)).mono ?_
        rintro r w2 ⟨k0, rfl, hk0, hk1, hd2, hc2⟩
        have HD2 := Lib.hid hd2
        have HC2 := Lib.hid (HEB.out _ hc2)
        have HX2 := Lib.hid (hc2.blk HNB.out (by simp; omega))
        clear hd2 hc2 HNB HEB cs0
        go_wp2_with fail
        go_loopw [11] (ArgsI attrs names (d' + 1) (r1 + 1) k0 w1.heap.size bd ((w.heap.size + 1) :: w1.heap.size :: bd :: M) w0 w1) (fun k _ => (intOf k).toNat)
        case atStart => exact ⟨[], [], .slice none 0 0, by simp; omega, by simp, by simp, HX2.out, World.ownsRow_nil _ _ _ _, ExsR.nil _, HC2.out, HD2.out⟩
        case round =>
          obtain ⟨l, xs, v, hlk, rfl, hml, hbe, hown, hex, hcr, hdr⟩ := hrel
          clear HD2 HC2 HX2
          have HML := Lib.hid hml
          have HBX := Lib.hid hbe
          have HOW := Lib.hid hown
          have HEX := Lib.hid hex
          have HCR := Lib.hid hcr
          have HDR := Lib.hid hdr
          have hrow : ∀ q ∈ rowOf v, w1.heap.size + 1 ≤ q := fun q hq => (hown.lt q (mem_rowOf.1 hq)).1
          have hrowlt : ∀ q ∈ rowOf v, q < wr.heap.size := fun q hq => (hown.lt q (mem_rowOf.1 hq)).2
          have HROW := Lib.hid hrow
          have HROWL := Lib.hid hrowlt
          have hbel := blk_lt hbe
          have hzr := hcr.size
          obtain ⟨e0, e1, e2, e3, e4, e5, ef⟩ := blk6 hbe
          have cs0 := blk_cell (hcr.blk HB11.out (by simp; omega)) 0
          simp at cs0
          clear hml hbe hown hex hcr hdr hrow hrowlt
          by_cases hlt : (l.length : Int) < k0
          · have t4 : decide (0 < k0 - (l.length : Int)) = true := by simp; omega
            have hl3 : l.length ≤ 3 := by omega
            go_wp2_with fail
            refine wp_region_growL (m := 11) [9, 10] (G15 v w0 wr bd) E15 (Rd15 attrs names (d' + 1) w1.heap.size bd v a n c an nn cn l.length xs (((w.heap.size + 1) :: w1.heap.size :: bd :: M) ++ rowOf v) wr) (by kernel_rfl) (by kernel_rfl) ⟨(Chg.refl _ _).drew, HDR.out.ext ((Ext.refl wr).drew), fun _ => (Chg.refl _ _).drew⟩ (rd15_keeps (by kernel_rfl)) ?_ ?_
            · intro i o hi ho L vs W hiL hnc hG hd ρ hρ
              have hi' : i = 0 ∨ i = 1 ∨ i = 2 ∨ i = 3 ∨ i = 4 ∨ i = 5 ∨ i = 6 ∨ i = 7 ∨ i = 8 ∨ i = 9 ∨ i = 10 := by omega
              clear hi
              have o10 : ρ (.tmp 10) = .pointer (some ⟨w1.heap.size, 0, none⟩) := hρ.out 10 rfl
              have i0 := hρ.ins 0 53 (by omega) rfl (Nat.le_of_ble_eq_true rfl)
              have o0 : ρ (.tmp 0) = .pointer (some ⟨bd, 0, none⟩) := hρ.out 0 rfl
              have o5 : ρ (.tmp 5) = .pointer (some ⟨w.heap.size, 0, none⟩) := hρ.out 5 rfl
              have o2 : ρ (.tmp 2) = .slice an nn cn := hρ.out 2 rfl
              have o3 : ρ (.tmp 3) = .int .i64 ((d' : Int) + 1 + 1) := hρ.out 3 rfl
              have i5 := hρ.ins 5 58 (by omega) rfl (Nat.le_of_ble_eq_true rfl)
              have i2 := hρ.ins 2 55 (by omega) rfl (Nat.le_of_ble_eq_true rfl)
              have i3 := hρ.ins 3 56 (by omega) rfl (Nat.le_of_ble_eq_true rfl)
              have i4 := hρ.ins 4 57 (by omega) rfl (Nat.le_of_ble_eq_true rfl)
              have i6 := hρ.ins 6 59 (by omega) rfl (Nat.le_of_ble_eq_true rfl)
              have i7 := hρ.ins 7 60 (by omega) rfl (Nat.le_of_ble_eq_true rfl)
              have i1 := hρ.ins 1 54 (by omega) rfl (Nat.le_of_ble_eq_true rfl)
              have i8 := hρ.ins 8 61 (by omega) rfl (Nat.le_of_ble_eq_true rfl)
              have i10 := hρ.ins 10 63 (by omega) rfl (Nat.le_of_ble_eq_true rfl)
              have i9 := hρ.ins 9 62 (by omega) rfl (Nat.le_of_ble_eq_true rfl)
              have hcs := hρ.const
              have hfn := hρ.func
              clear hρ
              have HGN := Lib.hid (show ∀ i, i ≠ 9 → G15 v w0 wr bd (L ++ [i]) W from fun i hi => ⟨hG.1, hG.2.1, fun h => hG.2.2 (fun h' => h (List.mem_append_left _ h'))⟩)
              have HG := Lib.hid hG
              have cE := hG.1.cell e5 (fun h => by
                rcases List.mem_cons.1 h with h | h
                · have h2 : w1.heap.size = bd := h; omega
                · have h2 : w1.heap.size + 1 ≤ w1.heap.size := HROW.out _ h; omega)
              have cS := hG.1.cell cs0 (fun h => by
                rcases List.mem_cons.1 h with h | h
                · have h2 : w.heap.size = bd := h; omega
                · have h2 : w1.heap.size + 1 ≤ w.heap.size := HROW.out _ h; omega)
              have hws := hG.1.size
              clear hG e0 e1 e2 e3 e4 e5 ef cs0
              rcases hi' with rfl | rfl | rfl | rfl | rfl | rfl | rfl | rfl | rfl | rfl | rfl
              · cases ho
                unfold GivesOp
                go_simp
                exact ⟨Or.inr (Or.inr (Or.inr rfl)), HGN.out _ (by simp), rfl⟩
              · cases ho
                have h0 : vs 0 = _ := hd ⟨0, .data⟩ (by simp) rfl
                rw [h0] at i0
                unfold GivesOp
                go_simp
                exact ⟨Or.inr (Or.inr (Or.inr rfl)), HGN.out _ (by simp), rfl⟩
              · cases ho
                unfold GivesOp
                go_simp
                exact ⟨Or.inr (Or.inr (Or.inr rfl)), HGN.out _ (by simp), rfl⟩
              · cases ho
                unfold GivesOp
                go_simp
                exact ⟨Or.inr (Or.inr (Or.inr rfl)), HGN.out _ (by simp), rfl⟩
              · cases ho
                unfold GivesOp
                go_simp
                exact ⟨Or.inr (Or.inr (Or.inr rfl)), HGN.out _ (by simp), rfl⟩
              · cases ho
                unfold GivesOp
                go_simp
                exact ⟨Or.inr (Or.inr (Or.inr rfl)), HGN.out _ (by simp), rfl⟩
              · cases ho
                have h5 : vs 5 = _ := hd ⟨5, .data⟩ (by simp) rfl
                rw [h5] at i5
                have ew : IntKind.i64.wrap ((d' : Int) + 1) = (d' : Int) + 1 := IntWalk.i64_in _ (by omega)
                unfold GivesOp
                go_simp
                exact ⟨Or.inr (Or.inr (Or.inr rfl)), HGN.out _ (by simp), rfl⟩
              · cases ho
                have h2 : vs 2 = _ := hd ⟨2, .data⟩ (by simp) rfl
                have h3 : vs 3 = _ := hd ⟨3, .data⟩ (by simp) rfl
                have h4 : vs 4 = _ := hd ⟨4, .data⟩ (by simp) rfl
                have h6' : vs 6 = _ := hd ⟨6, .data⟩ (by simp) rfl
                rw [h2] at i2
                rw [h3] at i3
                rw [h4] at i4
                rw [h6'] at i6
                unfold GivesOp
                go_simp
                have hno : 9 ∉ L := fun h => by have := hnc 9 h; revert this; decide +kernel
                have hCW := HG.out.2.2 hno
                have hCw := HC1.out.then (HCR.out.then hCW)
                refine (IH.out d' (by omega) (by omega) HG.out.2.1 a n c an nn cn (((w.heap.size + 1) :: w1.heap.size :: bd :: M) ++ rowOf v) (HS.out.mono hCw.sub) (HN.out.mono hCw.sub) (fun q hq => by
                  have hz := hCw.size
                  rcases List.mem_append.1 hq with hq | hq
                  · simp only [List.mem_cons] at hq
                    rcases hq with rfl | rfl | rfl | hq
                    · omega
                    · omega
                    · omega
                    · have := HM.out q hq; omega
                  · have := HROWL.out q hq; omega)).mono ?_
                rintro e W' ⟨x, xv, rfl, hmx, hix, hd', hc'⟩
                refine ⟨_, rfl, Or.inl rfl, ⟨HG.out.1.trans hc' (fun q hq => Or.inl (by simp at hq; subst hq; simp)), hd', fun _ => hCW.then hc'⟩, x, xv, rfl, hmx, ?_⟩
                simpa using hix
              · cases ho
                obtain ⟨x, xv, h7, hmx, hix⟩ := hd ⟨7, .data⟩ (by simp) rfl
                rw [h7] at i7
                unfold ExV.val exV at i7
                have hno : 9 ∉ L := fun h => by have := hnc 9 h; revert this; decide +kernel
                have HCW := Lib.hid (HG.out.2.2 hno)
                have HMX := Lib.hid hmx
                have HIX := Lib.hid hix
                clear hmx hix
                unfold GivesOp
                go_simp
                refine ⟨Or.inr (Or.inl rfl), ⟨HG.out.1.alloc _, HG.out.2.1.ext ((Ext.refl W).alloc _), fun _ => HCW.out.alloc _⟩, W.heap.size, x, xv, rfl, alloc_new W _, HMX.out, HIX.out.mono (mask_ext _ ((Ext.refl W).alloc _)), ?_⟩
                exact owns_ext (owns_chg HOW.out HCW.out (fun q hq h => by have h2 : q = bd := List.mem_singleton.1 h; have := (HOW.out.lt q hq).1; omega)) ((Ext.refl W).alloc _)
              · cases ho
                have h1 : vs 1 = _ := hd ⟨1, .data⟩ (by simp) rfl
                obtain ⟨x0, x, xv, h8, hx0, hmx, hix, hxo⟩ := hd ⟨8, .data⟩ (by simp) rfl
                rw [h1] at i1
                rw [h8] at i8
                have hnew : ∀ q (hq : q < xv.cells.length), W.cell? ⟨x0, q, none⟩ = some xv.cells[q] := by
                  intro q hq
                  rw [blk_cell hx0]
                  simp [hq]
                refine gives_append elemEx _ _ (w1.heap.size + 1) _ l.length _ i1 x0 1 1 xv.cells i8 rfl (by simp [ExV.cells, Value.oneCell']) (by omega) (by omega) (by omega) hxo hnew (by omega) ?_
                intro g cap w' ho' hg' hl' _
                have hgc : Chg (rowOf v) W w' := grown_chg hg'
                refine ⟨Or.inr (Or.inr (Or.inl rfl)), ⟨HG.out.1.trans hgc (fun q hq => Or.inl (List.mem_cons_of_mem _ hq)), HG.out.2.1.chg hgc (fun h => by have := HROW.out _ h; omega) (fun q hq => by have := HROW.out q hq; omega), fun h => absurd (by simp) h⟩, g, cap, x, xv, rfl, by rw [List.flatMap_append]; simpa using ho', hmx, hix.mono (mask_sub_mask fun q hq hn => ⟨fun h => by
                  rcases List.mem_append.1 h with h | h
                  · exact hn h
                  · have h2 : q = g := List.mem_singleton.1 h
                    rcases hl' with h3 | h3
                    · exact hn (List.mem_append_right _ (mem_rowOf.2 (h2 ▸ h3)))
                    · omega, hgc.block q hq (fun h => hn (List.mem_append_right _ h))⟩), ?_⟩
                rcases hl' with h | h
                · exact Or.inl h
                · exact Or.inr (by omega)
              · cases ho
                unfold GivesOp
                go_simp
                exact ⟨Or.inr (Or.inr (Or.inr rfl)), HGN.out _ (by simp), rfl⟩
            · intro L vs W _ hG hR
              rw [if_neg (by decide +kernel)]
              obtain ⟨g, cap, x, xv, h9, hown2, hmx, hix, hgl⟩ := hR 9 (by simp) (by omega)
              have h10 : vs 10 = _ := hR 10 (by simp) (by omega)
              have hC := hG.1
              have hbx2 := hC.blk HBX.out (fun h => by
                rcases List.mem_cons.1 h with h | h
                · have h2 : w1.heap.size = bd := h; omega
                · have h2 : w1.heap.size + 1 ≤ w1.heap.size := HROW.out _ h; omega)
              have hbl2 := blk_lt hbx2
              have HBX2 := Lib.hid hbx2
              have HOW2 := Lib.hid hown2
              have HC := Lib.hid hC
              have HDK := Lib.hid hG.2.1
              have HMX := Lib.hid hmx
              have HIX := Lib.hid hix
              have HGL := Lib.hid hgl
              clear e0 e1 e2 e3 e4 e5 ef cs0
              obtain ⟨e0, e1, e2, e3, e4, e5, ef⟩ := blk6 hbx2
              clear hG hR hC hbx2 hown2 hmx hix hgl
              unfold wpOp
              simp only [acts, dstAt, List.range, List.range.loop, List.foldl_cons, List.foldl_nil, h9, h10]
              clear h9 h10
              go_simp
              refine Or.inl ?_
              go_wp2_with fail
              go_roundw
              case rel =>
                have hset := (Chg.refl [w1.heap.size] W).setCell (p := ⟨w1.heap.size, 5, none⟩) (Or.inl (by simp)) (.slice (some ⟨g, 0, none⟩) (l.length + 1) cap)
                have hg1 := (HOW2.out.lt g rfl).1
                have hg2 := (HOW2.out.lt g rfl).2
                refine ⟨l ++ [x], xs ++ [xv], .slice (some ⟨g, 0, none⟩) (l.length + 1) cap, by simp; omega, (by simp; omega), ?_, ?_, ?_, ?_, ?_, ?_⟩
                · intro e he
                  rcases List.mem_append.1 he with he | he
                  · exact HML.out e he
                  · simp at he; subst he; exact HMX.out
                · rw [heap_setCell_same _ _ _ _ _ _ HBX2.out]; rfl
                · rw [List.length_append, List.length_singleton]
                  exact owns_chg HOW2.out hset (fun q hq h => by cases hq; have h2 : g = w1.heap.size := List.mem_singleton.1 h; omega)
                · have hrg : rowOf (.slice (some ⟨g, 0, none⟩) (l.length + 1) cap) = [g] := rfl
                  rw [hrg]
                  refine ExsR.snoc (HEX.out.mono (mask_sub_mask fun q hq hn => ⟨fun h => ?_, ?_⟩)) (HIX.out.mono (mask_sub_mask fun q hq hn => ⟨fun h => ?_, ?_⟩))
                  · rcases List.mem_append.1 h with h | h
                    · exact hn (List.mem_append_left _ h)
                    · have h2 : q = g := List.mem_singleton.1 h
                      rcases HGL.out with h3 | h3
                      · exact hn (List.mem_append_right _ (mem_rowOf.2 (h2 ▸ h3)))
                      · omega
                  · rw [hset.block q (by have := HC.out.size; omega) (fun h => hn (by have h2 : q = w1.heap.size := List.mem_singleton.1 h; simp [h2]))]
                    exact HC.out.block q hq (fun h => hn (by
                      rcases List.mem_cons.1 h with h | h
                      · simp [h]
                      · exact List.mem_append_right _ h))
                  · rcases List.mem_append.1 h with h | h
                    · exact hn (List.mem_append_left _ (List.mem_append_left _ h))
                    · exact hn (List.mem_append_right _ h)
                  · exact hset.block q hq (fun h => hn (by have h2 : q = w1.heap.size := List.mem_singleton.1 h; simp [h2]))
                · refine (HCR.out.trans HC.out (fun q hq => ?_)).trans hset (fun q hq => by have h2 : q = w1.heap.size := List.mem_singleton.1 hq; exact Or.inr (by omega))
                  rcases List.mem_cons.1 hq with rfl | hq
                  · exact Or.inl (by simp)
                  · exact Or.inr (by have := HROW.out q hq; omega)
                · exact HDK.out.chg hset (by rw [List.mem_singleton]; omega) (fun q hq => by have h2 : q = w1.heap.size := List.mem_singleton.1 hq; omega)
              case measure => simp [intOf]; omega
          · have hll : (l.length : Int) = k0 := by omega
            have t4 : decide (0 < k0 - (l.length : Int)) = false := by simp; omega
            have hrb := (HCR.out.blk HB21.out (by simp; omega))
            have hra2 := blk_lt hrb
            unfold exV0 ExV.cells at hrb
            obtain ⟨b0, b1, b2, b3, b4, b5, bf⟩ := blk6 hrb
            obtain ⟨sa, sc, hv, hq1, hq2, hq3⟩ := exs_owns (M := (w.heap.size + 1) :: M) HOW.out (fun q hq h => by
              have h1 := (HOW.out.lt q hq).1
              rcases List.mem_cons.1 h with h | h
              · omega
              · have := HM.out q h; omega) (HEX.out.mono (mask_less _ (fun q hq => List.mem_append_left _ (by
                rcases List.mem_cons.1 hq with h | h
                · simp [h]
                · simp [h]))))
            subst hv
            have HFX := Lib.hid (show IsEx (mask wr ((w.heap.size + 1) :: M)) (.mk (r1 + 1) ⟨#[]⟩ [] 0 0 l) (exV (r1 + 1) ⟨#[]⟩ none 0 0 0 0 sa l.length sc) from IsEx.mk ⟨rfl, by omega, Or.inl ⟨rfl, rfl⟩, fun i hi => by simp at hi⟩ rfl hq1 hq2 hq3)
            have HFM := Lib.hid (show MadeE attrs names (d' + 1 + 1) (.mk (r1 + 1) ⟨#[]⟩ [] 0 0 l) from Or.inr ⟨Or.inr ⟨by simp only [Ex.op]; omega, by simp only [Ex.args]; omega, by simp only [Ex.args]; omega⟩, rfl, rfl, rfl, rfl, HML.out⟩)
            clear hrb hq1 hq2 hq3 hll cs0
            go_wp2_with fail
            refine bodyPost_ret (v := (ExV.mk (r1 + 1) ⟨#[]⟩ none 0 0 0 0 sa l.length sc).val) (by simp [results, Tryz.results8, go_sem, ExV.val, exV, b0, b1, b2, b3, b4, b5]) rfl ?_
            exact made_fin (e := .mk (r1 + 1) ⟨#[]⟩ [] 0 0 l) (x := ⟨r1 + 1, ⟨#[]⟩, none, 0, 0, 0, 0, sa, l.length, sc⟩) (HC1.out.then HCR.out) HDR.out (by omega) hbd HFM.out HFX.out
end Go.Proofs.YtfjlglefodndjaaGreatDoor

namespace Go.Proofs.YtfjlglefodndjaaGreatDoor
open Go.RowKit

instance okAttrDec (a : Attr) : Decidable (OkAttr a) := by unfold OkAttr; infer_instance
theorem schemas_ok : ∀ l ∈ schemas, (∀ a ∈ l, OkAttr a) ∧ l ≠ [] ∧ l.length ≤ 1000 := by
  have h : ∀ l ∈ schemas, (∀ a ∈ l, OkAttr a) ∧ l.length ≠ 0 ∧ l.length ≤ 1000 := by decide +kernel
  intro l hl
  obtain ⟨h1, h2, h3⟩ := h l hl
  exact ⟨h1, fun e => h2 (by rw [e]; rfl), h3⟩
def defOld : List ByteArray := [⟨#[100, 101, 102]⟩, ⟨#[111, 108, 100]⟩]
/-- An expression was made; nothing that was there has changed. -/
def LawExprQ (M : List Nat) (w : World) (e : Ending) (w' : World) : Prop := ∃ (x : Ex) (v : ExV) (attrs : List Attr), e = .returned v.val ∧ attrs ∈ schemas ∧ MadeE attrs defOld 5 x ∧ IsEx (mask w' M) x v.val ∧ Ext w w'

end Go.Proofs.YtfjlglefodndjaaGreatDoor

namespace Go.Proofs.YtfjlglefodndjaaGreatDoor

theorem goodT_name {s : ByteArray} (h : wordB s = true) : goodT (nameT s) := ⟨rfl, Or.inl ⟨rfl, h, rfl⟩⟩
theorem goodT_mark {c : UInt8} (h : markB (c.toNat : Int) = true) : goodT (markT c) := ⟨rfl, Or.inr (Or.inr ⟨rfl, rfl, c, rfl, h⟩)⟩
theorem goodT_num {n : Int} (h : numberB n = true) : goodT (numT n) := by
  simp [numberB] at h
  exact ⟨rfl, Or.inr (Or.inl ⟨rfl, rfl, by simp only [numT]; omega, by simp only [numT]; omega⟩)⟩
theorem nameB_wordB {s : ByteArray} (h : nameB s = true) : wordB s = true := by simp only [nameB, Bool.and_eq_true] at h; exact h.1
theorem words_ok : wordB wTrue = true ∧ wordB wFalse = true ∧ wordB wIn = true ∧ wordB wFrom = true ∧ wordB wTo = true ∧ wordB wNot = true ∧ wordB wAnd = true ∧ wordB wOr = true := by decide +kernel
theorem good_listed : (l : List ByteArray) → (∀ x ∈ l, nameB x = true) → ∀ t ∈ listedT l, goodT t
  | [], _, t, h => by simp [listedT] at h
  | [a], hn, t, h => by simp [listedT] at h; subst h; exact goodT_name (nameB_wordB (hn a (by simp)))
  | a :: b :: r, hn, t, h => by
    rw [listedT] at h
    rcases List.mem_cons.1 h with rfl | h
    · exact goodT_name (nameB_wordB (hn a (by simp)))
    · rcases List.mem_cons.1 h with rfl | h
      · exact goodT_mark (by decide)
      · exact good_listed (b :: r) (fun x hx => hn x (List.mem_cons_of_mem _ hx)) t h
    all_goals simp
theorem good_argT {op : Int} {a : Ex} (h : ∀ t ∈ tokE a, goodT t) : ∀ t ∈ argT op a, goodT t := by
  intro t ht
  unfold argT at ht
  split at ht
  · simp only [List.mem_append, List.mem_singleton] at ht
    rcases ht with (rfl | ht) | rfl
    · exact goodT_mark (by decide)
    · exact h t ht
    · exact goodT_mark (by decide)
  · exact h t ht
theorem good_tokMore {op : Int} : (l : List Ex) → (∀ a ∈ l, ∀ t ∈ tokE a, goodT t) → ∀ t ∈ tokMore op l, goodT t
  | [], _, t, h => by simp [tokMore] at h
  | a :: r, ha, t, h => by
    rw [tokMore_cons] at h
    rcases List.mem_cons.1 h with rfl | h
    · split
      · exact goodT_name words_ok.2.2.2.2.2.2.1
      · exact goodT_name words_ok.2.2.2.2.2.2.2
    · rcases List.mem_append.1 h with h | h
      · exact good_argT (ha a (by simp)) t h
      · exact good_tokMore r (fun x hx => ha x (List.mem_cons_of_mem _ hx)) t h
theorem good_tokArgs {op : Int} (l : List Ex) (ha : ∀ a ∈ l, ∀ t ∈ tokE a, goodT t) : ∀ t ∈ tokArgs op l, goodT t := by
  intro t h
  cases l with
  | nil => simp [tokArgs] at h
  | cons a r =>
    rw [tokArgs_cons] at h
    rcases List.mem_append.1 h with h | h
    · exact good_argT (ha a (by simp)) t h
    · exact good_tokMore r (fun x hx => ha x (List.mem_cons_of_mem _ hx)) t h
theorem okTree_parts {e : Ex} (h : okTree e) : okNode e ∧ ∀ x ∈ e.args, okTree x := by
  cases e; unfold okTree at h; exact ⟨h.1, okTrees_mem h.2⟩
theorem okTree_mk {e : Ex} (h1 : okNode e) (h2 : ∀ x ∈ e.args, okTree x) : okTree e := by
  cases e with
  | mk op name words lo hi args =>
    unfold okTree
    refine ⟨h1, ?_⟩
    simp only [Ex.args] at h2
    clear h1
    induction args with
    | nil => unfold okTrees; trivial
    | cons a r ih => unfold okTrees; exact ⟨h2 a (by simp), ih (fun x hx => h2 x (List.mem_cons_of_mem _ hx))⟩
/-- The tokens of an expression, by its operator. -/
theorem tokE_eq (e : Ex) : tokE e = if e.op = 1 then [nameT wTrue] else if e.op = 2 then [nameT wFalse] else if e.op = 3 then [nameT e.name] else
    if e.op = 4 then [nameT e.name, nameT wIn, markT 40] ++ listedT e.words ++ [markT 41] else
    if e.op = 5 then [nameT e.name, nameT wFrom, numT e.lo, nameT wTo, numT e.hi] else
    (if e.op = 6 then [nameT wNot] else []) ++ tokArgs e.op e.args := by cases e; rw [tokE]; rfl
/-- The tokens of a valid expression can be written. -/
theorem good_tokE (m : Nat) : ∀ e : Ex, e.size ≤ m → okTree e → ∀ t ∈ tokE e, goodT t := by
  induction m with
  | zero => intro e h; have := e.size_eq; omega
  | succ m ih =>
    intro e hm hok
    obtain ⟨hn, ha⟩ := okTree_parts hok
    have hargs : ∀ a ∈ e.args, ∀ t ∈ tokE a, goodT t := fun a haa => ih a (by have := sizes_mem haa; have := e.size_eq; omega) (ha a haa)
    intro t ht
    rw [tokE_eq] at ht
    rcases hn with ⟨h1, _⟩ | ⟨h1, _⟩ | ⟨h1, h2, _⟩ | ⟨h1, h2, h3, _⟩ | ⟨h1, h2, _, h4, h5, _⟩ | ⟨h1, _⟩ | ⟨h1, _⟩
    · simp [h1] at ht; subst ht; exact goodT_name words_ok.1
    · simp [h1] at ht; subst ht; exact goodT_name words_ok.2.1
    · simp [h1] at ht; subst ht; exact goodT_name (nameB_wordB h2)
    · rw [h1] at ht
      simp only [wordsB, Bool.and_eq_true, List.all_eq_true] at h3
      simp [-List.append_assoc] at ht
      rcases ht with rfl | rfl | rfl | ht | rfl
      · exact goodT_name (nameB_wordB h2)
      · exact goodT_name words_ok.2.2.1
      · exact goodT_mark (by decide)
      · exact good_listed _ h3.1.2 t ht
      · exact goodT_mark (by decide)
    · rw [h1] at ht
      simp at ht
      rcases ht with rfl | rfl | rfl | rfl | rfl
      · exact goodT_name (nameB_wordB h2)
      · exact goodT_name words_ok.2.2.2.1
      · exact goodT_num h4
      · exact goodT_name words_ok.2.2.2.2.1
      · exact goodT_num h5
    · rw [h1] at ht
      simp at ht
      rcases ht with rfl | ht
      · exact goodT_name words_ok.2.2.2.2.2.1
      · exact good_tokArgs _ hargs t ht
    · have ht' : t ∈ tokArgs e.op e.args := by rcases h1 with h1 | h1 <;> (rw [h1] at ht ⊢; simpa using ht)
      exact good_tokArgs _ hargs t ht'

/-- Bytes of tokens, with a blank each. -/
def wts : List Tok → Nat
  | [] => 0
  | t :: r => (tokB t).length + 1 + wts r
theorem wts_append : (a b : List Tok) → wts (a ++ b) = wts a + wts b
  | [], b => by simp [wts]
  | t :: r, b => by simp [wts, wts_append r b]; omega
theorem pcsB_joinPc_le : (l : List Tok) → (g : Bool) → (pcsB (joinPc g l)).length ≤ wts l
  | [], g => by simp [joinPc, pcsB]
  | t :: r, g => by
    have ih := pcsB_joinPc_le r (tokB t == [40])
    rw [joinPc, pcsB_append, List.length_append, wts]
    split
    · simp [pcsB, Pc.bytes] at ih ⊢; omega
    · simp [pcsB, Pc.bytes] at ih ⊢; omega
theorem digs_len : (f n k : Nat) → n < 10 ^ (k + 1) → (digs f n).length ≤ k + 1
  | 0, n, k, _ => by simp [digs]
  | f + 1, n, k, h => by
    rw [digs]
    split
    · simp
    · cases k with
      | zero => rename_i hn; simp at h; omega
      | succ k =>
        have := digs_len f (n / 10) k (by rw [Nat.pow_succ] at h; omega)
        simp; omega
theorem wts_num {n : Int} (h : numberB n = true) (r : List Tok) : wts (numT n :: r) ≤ 12 + wts r := by
  simp [numberB] at h
  have := digs_len 20 n.natAbs 9 (by omega)
  have h2 : (decB n).length ≤ 11 := by
    unfold decB
    split
    · simp only [List.length_cons]; omega
    · omega
  have e : tokB (numT n) = decB n := by rw [tokB, if_pos (show (numT n).kind = 2 from rfl)]; rfl
  simp only [wts, e] ; omega
theorem wts_name (s : ByteArray) (r : List Tok) : wts (nameT s :: r) = s.size + 1 + wts r := by
  have e : tokB (nameT s) = s.data.toList := by rw [tokB, if_neg (by simp [nameT])]; rfl
  simp only [wts, e, Array.length_toList]; rfl
theorem wts_mark (c : UInt8) (r : List Tok) : wts (markT c :: r) = 2 + wts r := by
  have e : tokB (markT c) = [c] := by rw [tokB, if_neg (by simp [markT])]; rfl
  simp only [wts, e]; rfl

theorem wts_nil : wts [] = 0 := rfl
def okAttr2 (a : Attr) : Bool := nameB a.name && decide (a.name.size ≤ 7) && (a.kind != 1 || (decide (a.words.length ≤ 4) && a.words.all fun x => nameB x && decide (x.size ≤ 5))) && (a.kind != 2 || (decide (-1000000000 ≤ a.lo) && decide (a.hi ≤ 1000000000)))
theorem schemas_ok2 : (schemas.all fun l => l.all okAttr2) = true := by decide +kernel
theorem defOld_ok : (defOld.all fun x => nameB x && decide (x.size ≤ 7)) = true := by decide +kernel
def boundT : Nat → Nat | 0 => 11 | d + 1 => 3 * boundT d + 8
def boundB : Nat → Nat | 0 => 45 | d + 1 => 3 * boundB d + 20
def boundS : Nat → Nat | 0 => 1 | d + 1 => 3 * boundS d + 1
/-- What is known of an expression that was made. -/
structure Fine (d : Nat) (e : Ex) : Prop where
  ok : okTree e
  len : (tokE e).length ≤ boundT d
  wt : wts (tokE e) ≤ boundB d
  size : e.size ≤ boundS d
  depth : e.depth ≤ d + 1
theorem boundT_le (d : Nat) : 11 ≤ boundT d := by induction d with | zero => simp [boundT] | succ d ih => simp only [boundT]; omega
theorem boundB_le (d : Nat) : 45 ≤ boundB d := by induction d with | zero => simp [boundB] | succ d ih => simp only [boundB]; omega
theorem boundS_le (d : Nat) : 1 ≤ boundS d := by induction d with | zero => simp [boundS] | succ d ih => simp only [boundS]; omega
theorem fine_leaf {d : Nat} {e : Ex} (ha : e.args = []) (hn : okNode e) (h1 : (tokE e).length ≤ 11) (h2 : wts (tokE e) ≤ 45) : Fine d e where
  ok := okTree_mk hn (by rw [ha]; simp)
  len := by have := boundT_le d; omega
  wt := by have := boundB_le d; omega
  size := by have := boundS_le d; rw [e.size_eq, ha]; simp [sizes]; omega
  depth := by rw [e.depth_eq, ha]; simp [depths]
theorem listedT_wts : (l : List ByteArray) → (∀ x ∈ l, x.size ≤ 5) → wts (listedT l) ≤ 8 * l.length
  | [], _ => by simp [listedT, wts_nil]
  | [a], h => by have := h a (by simp); simp only [listedT, wts_name, wts_nil, List.length_singleton]; omega
  | a :: b :: r, h => by
    have h1 := h a (by simp)
    have := listedT_wts (b :: r) (fun x hx => h x (List.mem_cons_of_mem _ hx))
    rw [listedT, wts_name, wts_mark]
    simp only [List.length_cons] at this ⊢
    omega
    all_goals simp
theorem listedT_len2 : (l : List ByteArray) → (listedT l).length ≤ 2 * l.length
  | [] => by simp [listedT]
  | [a] => by simp [listedT]
  | a :: b :: r => by have := listedT_len2 (b :: r); simp only [listedT, List.length_cons] at this ⊢; omega
theorem atom_fine {attrs : List Attr} (hs : attrs ∈ schemas) {e : Ex} (h : AtomOf attrs defOld e) (d : Nat) : Fine d e := by
  have hat : ∀ a ∈ attrs, okAttr2 a = true := fun a ha => List.all_eq_true.1 (List.all_eq_true.1 schemas_ok2 attrs hs) a ha
  obtain ⟨ha, h⟩ := h
  rcases h with ⟨h1, h2, h3, h4, h5⟩ | ⟨h1, h2, h3, h4, h5⟩ | ⟨h1, h2, h3, h4, h5⟩ | ⟨h1, ⟨a, haa, hk, hnm, hne, hnd, hin⟩, h4, h5⟩ | ⟨h1, ⟨a, haa, hk, hnm, hl1, hl2, hl3⟩, h3⟩
  · have e1 : tokE e = [nameT wTrue] := by rw [tokE_eq, if_pos h1]
    exact fine_leaf ha (Or.inl ⟨h1, h2, h3, h4, h5, ha⟩) (by rw [e1]; simp) (by rw [e1, wts_name]; simp only [wts_nil]; decide)
  · have e1 : tokE e = [nameT wFalse] := by rw [tokE_eq, h1]; rfl
    exact fine_leaf ha (Or.inr (Or.inl ⟨h1, h2, h3, h4, h5, ha⟩)) (by rw [e1]; simp) (by rw [e1, wts_name]; simp only [wts_nil]; decide)
  · have e1 : tokE e = [nameT e.name] := by rw [tokE_eq, h1]; rfl
    have hn : nameB e.name = true ∧ e.name.size ≤ 7 := by
      rcases h2 with h2 | ⟨a, haa, _, h2⟩
      · have := List.all_eq_true.1 defOld_ok _ h2
        simpa using this
      · have := hat a haa
        simp only [okAttr2, Bool.and_eq_true, decide_eq_true_eq] at this
        rw [h2]; exact this.1.1
    exact fine_leaf ha (Or.inr (Or.inr (Or.inl ⟨h1, hn.1, h3, h4, h5, ha⟩))) (by rw [e1]; simp) (by rw [e1, wts_name]; simp only [wts_nil]; omega)
  · have e1 : tokE e = [nameT e.name, nameT wIn, markT 40] ++ listedT e.words ++ [markT 41] := by rw [tokE_eq, h1]; rfl
    have hq := hat a haa
    simp only [okAttr2, hk, Bool.and_eq_true, decide_eq_true_eq, bne_self_eq_false, Bool.false_or, List.all_eq_true] at hq
    obtain ⟨⟨⟨hq1, hq2⟩, hq3, hq4⟩, _⟩ := hq
    have hlen : e.words.length ≤ 4 := Nat.le_trans (List.Nodup.length_le_of_subset hnd (fun x hx => hin x hx)) hq3
    have hl0 : e.words.length ≠ 0 := fun h => hne (List.eq_nil_of_length_eq_zero h)
    refine fine_leaf ha (Or.inr (Or.inr (Or.inr (Or.inl ⟨h1, by rw [hnm]; exact hq1, ?_, h4, h5, ha⟩)))) ?_ ?_
    · simp only [wordsB, Bool.and_eq_true, bne_iff_ne, decide_eq_true_eq, List.all_eq_true]
      exact ⟨⟨⟨by simpa using hl0, by omega⟩, fun x hx => (hq4 x (hin x hx)).1⟩, hnd⟩
    · have := listedT_len2 e.words
      rw [e1]; simp; 
      have h8 : (listedT e.words).length ≤ 7 := by
        match e.words, hlen, hl0 with
        | [_], _, _ => simp [listedT]
        | [_, _], _, _ => simp [listedT]
        | [_, _, _], _, _ => simp [listedT]
        | [_, _, _, _], _, _ => simp [listedT]
      omega
    · have := listedT_wts e.words (fun x hx => (hq4 x (hin x hx)).2)
      have h7 : e.name.size ≤ 7 := by rw [hnm]; exact hq2
      have hz : wIn.size = 2 := rfl
      have h9 : wts (listedT e.words) ≤ 30 := by
        have hx : ∀ x ∈ e.words, x.size ≤ 5 := fun x hx => (hq4 x (hin x hx)).2
        revert hx
        match e.words, hlen, hl0 with
        | [a], _, _ => intro hx; have := hx a (by simp); simp only [listedT, wts_name, wts_nil]; omega
        | [a, b], _, _ => intro hx; have := hx a (by simp); have := hx b (by simp); simp only [listedT, wts_name, wts_mark, wts_nil]; omega
        | [a, b, c], _, _ => intro hx; have := hx a (by simp); have := hx b (by simp); have := hx c (by simp); simp only [listedT, wts_name, wts_mark, wts_nil]; omega
        | [a, b, c, d], _, _ => intro hx; have := hx a (by simp); have := hx b (by simp); have := hx c (by simp); have := hx d (by simp); simp only [listedT, wts_name, wts_mark, wts_nil]; omega
      rw [e1, wts_append, wts_append, wts_name, wts_name, wts_mark, wts_mark]; simp only [wts_nil]; omega
  · have e1 : tokE e = [nameT e.name, nameT wFrom, numT e.lo, nameT wTo, numT e.hi] := by rw [tokE_eq, h1]; rfl
    have hq := hat a haa
    simp only [okAttr2, hk, Bool.and_eq_true, decide_eq_true_eq, bne_self_eq_false, Bool.false_or] at hq
    obtain ⟨⟨⟨hq1, hq2⟩, _⟩, hq3, hq4⟩ := hq
    have hlo : numberB e.lo = true := by simp [numberB]; omega
    have hhi : numberB e.hi = true := by simp [numberB]; omega
    refine fine_leaf ha (Or.inr (Or.inr (Or.inr (Or.inr (Or.inl ⟨h1, by rw [hnm]; exact hq1, h3, hlo, hhi, hl2, ha⟩))))) (by rw [e1]; simp) ?_
    have h7 : e.name.size ≤ 7 := by rw [hnm]; exact hq2
    have hz : wFrom.size = 4 := rfl
    have hz2 : wTo.size = 2 := rfl
    have w5 := wts_num hhi []
    have w3 := wts_num hlo [nameT wTo, numT e.hi]
    rw [e1, wts_name, wts_name]
    rw [wts_name] at w3
    simp only [wts_nil] at w5
    omega
theorem argT_len (op : Int) (a : Ex) : (argT op a).length ≤ (tokE a).length + 2 ∧ wts (argT op a) ≤ wts (tokE a) + 4 := by
  unfold argT
  split
  · rw [wts_append, wts_append, wts_mark, wts_mark]; simp [wts_nil]; omega
  · omega
theorem fine_step {d : Nat} {e : Ex} (h : e.op = 6 ∧ e.args.length = 1 ∨ (e.op = 7 ∨ e.op = 8) ∧ 2 ≤ e.args.length ∧ e.args.length ≤ 3) (h1 : e.name = ⟨#[]⟩) (h2 : e.words = []) (h3 : e.lo = 0) (h4 : e.hi = 0) (ha : ∀ x ∈ e.args, Fine d x) : Fine (d + 1) e := by
  have hw : ∀ op : Int, (nameT (if op = 7 then wAnd else wOr)).text.size ≤ 3 := fun op => by split <;> decide
  have hwt : ∀ (op : Int) (r : List Tok), wts (nameT (if op = 7 then wAnd else wOr) :: r) ≤ 4 + wts r := fun op r => by rw [wts_name]; have := hw op; simp only [nameT] at this; omega
  have hb := boundT_le d
  have hb2 := boundB_le d
  rcases h with ⟨hop, hl⟩ | ⟨hop, hl, hl3⟩
  · obtain ⟨x, hx⟩ : ∃ x, e.args = [x] := by
      match e.args, hl with
      | [x], _ => exact ⟨x, rfl⟩
    have fx := ha x (by rw [hx]; simp)
    have hal := argT_len 6 x
    have e1 : tokE e = nameT wNot :: argT 6 x := by rw [tokE_eq, hop, hx]; simp [tokArgs_cons, tokMore]
    refine ⟨okTree_mk (Or.inr (Or.inr (Or.inr (Or.inr (Or.inr (Or.inl ⟨hop, h1, h2, h3, h4, hl⟩)))))) (fun y hy => (ha y hy).ok), ?_, ?_, ?_, ?_⟩
    · have := fx.len; rw [e1]; simp only [boundT, List.length_cons]; omega
    · have := fx.wt
      have hz : wNot.size = 3 := rfl
      rw [e1, wts_name]; simp only [boundB]; omega
    · have := fx.size; rw [e.size_eq, hx]; simp only [sizes, boundS]; omega
    · have := fx.depth; rw [e.depth_eq, hx]; simp only [depths]; omega
  · have e1 : tokE e = tokArgs e.op e.args := by rw [tokE_eq]; rcases hop with hop | hop <;> (rw [hop]; rfl)
    refine ⟨okTree_mk (Or.inr (Or.inr (Or.inr (Or.inr (Or.inr (Or.inr ⟨hop, h1, h2, h3, h4, hl⟩)))))) (fun y hy => (ha y hy).ok), ?_, ?_, ?_, ?_⟩
    all_goals
      obtain ⟨x, y, hxy⟩ | ⟨x, y, z, hxyz⟩ : (∃ x y, e.args = [x, y]) ∨ ∃ x y z, e.args = [x, y, z] := by
        match e.args, hl, hl3 with
        | [x, y], _, _ => exact Or.inl ⟨x, y, rfl⟩
        | [x, y, z], _, _ => exact Or.inr ⟨x, y, z, rfl⟩
    · have fx := (ha x (by rw [hxy]; simp)).len; have fy := (ha y (by rw [hxy]; simp)).len
      have ax := argT_len e.op x; have ay := argT_len e.op y
      rw [e1, hxy, tokArgs_cons, tokMore_cons]; simp only [tokMore, List.length_append, List.length_cons, List.length_nil, boundT]; omega
    · have fx := (ha x (by rw [hxyz]; simp)).len; have fy := (ha y (by rw [hxyz]; simp)).len; have fz := (ha z (by rw [hxyz]; simp)).len
      have ax := argT_len e.op x; have ay := argT_len e.op y; have az := argT_len e.op z
      rw [e1, hxyz, tokArgs_cons, tokMore_cons, tokMore_cons]; simp only [tokMore, List.length_append, List.length_cons, List.length_nil, boundT]; omega
    · have fx := (ha x (by rw [hxy]; simp)).wt; have fy := (ha y (by rw [hxy]; simp)).wt
      have ax := argT_len e.op x; have ay := argT_len e.op y
      have w1 := hwt e.op (argT e.op y ++ [])
      rw [e1, hxy, tokArgs_cons, tokMore_cons, wts_append]; simp only [tokMore, boundB, wts_append, wts_nil] at w1 ⊢; omega
    · have fx := (ha x (by rw [hxyz]; simp)).wt; have fy := (ha y (by rw [hxyz]; simp)).wt; have fz := (ha z (by rw [hxyz]; simp)).wt
      have ax := argT_len e.op x; have ay := argT_len e.op y; have az := argT_len e.op z
      have w1 := hwt e.op (argT e.op y ++ tokMore e.op [z])
      have w2 := hwt e.op (argT e.op z ++ [])
      rw [e1, hxyz, tokArgs_cons, tokMore_cons, wts_append]
      rw [tokMore_cons] at w1 ⊢
      simp only [tokMore, boundB, wts_append, wts_nil] at w1 w2 ⊢; omega
    · have fx := (ha x (by rw [hxy]; simp)).size; have fy := (ha y (by rw [hxy]; simp)).size
      rw [e.size_eq, hxy]; simp only [sizes, boundS]; omega
    · have fx := (ha x (by rw [hxyz]; simp)).size; have fy := (ha y (by rw [hxyz]; simp)).size; have fz := (ha z (by rw [hxyz]; simp)).size
      rw [e.size_eq, hxyz]; simp only [sizes, boundS]; omega
    · have fx := (ha x (by rw [hxy]; simp)).depth; have fy := (ha y (by rw [hxy]; simp)).depth
      rw [e.depth_eq, hxy]; simp only [depths]; omega
    · have fx := (ha x (by rw [hxyz]; simp)).depth; have fy := (ha y (by rw [hxyz]; simp)).depth; have fz := (ha z (by rw [hxyz]; simp)).depth
      rw [e.depth_eq, hxyz]; simp only [depths]; omega
theorem made_fine {attrs : List Attr} (hs : attrs ∈ schemas) : (d : Nat) → (e : Ex) → MadeE attrs defOld (d + 1) e → Fine d e
  | 0, e, h => by
    rcases h with h | ⟨hl, _, _, _, _, h⟩
    · exact atom_fine hs h 0
    · exfalso
      cases hx : e.args with
      | nil => rw [hx] at hl; simp at hl
      | cons x r => exact h x (by rw [hx]; simp)
  | d + 1, e, h => by
    rcases h with h | ⟨hl, h1, h2, h3, h4, h⟩
    · exact atom_fine hs h _
    · exact fine_step hl h1 h2 h3 h4 (fun x hx => made_fine hs d x (h x hx))
end Go.Proofs.YtfjlglefodndjaaGreatDoor

namespace Go.Proofs.YtfjlglefodndjaaGreatDoor

/-! Plain predicates for wp_region_grow, as wip/gen/growpf.py uses them. -/
def GrG (wr W : World) : Prop := Ext wr W
def GrE (_ : Nat) (W W' : World) : Prop := Ext W W'
def GrR (f : Nat → Value) (j : Nat) (u : Value) (_ : World) : Prop := u = f j
def GrP (R : Nat → Value → World → Prop) (j : Nat) (u : Value) (W : World) : Prop := R j u W
theorem wpOp_lastG {P : Program} {ops : Array Oper} {Q : Exit → Act → World → Prop} {a : Act} {w : World} {i : Nat} {o : Oper} (ho : ops[i]? = some o) (h : wpList P ops Q [o] a w) : wpOp P ops Q i (fun a w => Q .normal a w) a w := by
  unfold wpOp
  rw [ho]
  exact h
end Go.Proofs.YtfjlglefodndjaaGreatDoor
