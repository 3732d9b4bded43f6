/-
  Texts of the claim, joined: Made2, LawExpr, Fmt, Fmt2.
-/
import Derived.Test.YtaepiiediblleaaDoorNa12
import Derived.Test.YtaepiiediblleaaDoorNa08
namespace Go.Proofs.YtaepiiediblleaaDoor
open Go.RowKit

/-- An expression of at most a depth over a schema and names, as the generator makes it. -/
def MadeE (attrs : List Attr) (names : List ByteArray) : Nat → Ex → Prop
  | 0, _ => False
  | d + 1, e => AtomOf attrs names e ∨ ((e.op = 6 ∧ e.args.length = 1 ∨ (e.op = 7 ∨ e.op = 8) ∧ 2 ≤ e.args.length ∧ e.args.length ≤ 3) ∧ e.name = ⟨#[]⟩ ∧ e.words = [] ∧ e.lo = 0 ∧ e.hi = 0 ∧ ∀ x ∈ e.args, MadeE attrs names d x)
theorem MadeE.atom {attrs : List Attr} {names : List ByteArray} {d : Nat} {e : Ex} (h : AtomOf attrs names e) (hd : 0 < d) : MadeE attrs names d e := by
  obtain ⟨d, rfl⟩ : ∃ k, d = k + 1 := ⟨d - 1, by omega⟩
  exact Or.inl h
theorem MadeQ.mono {P P' : Ex → Prop} {w0 : World} {bd : Nat} {M : List Nat} {w : World} {e : Ending} {w' : World} (h : MadeQ P w0 bd M w e w') (hp : ∀ x, P x → P' x) : MadeQ P' w0 bd M w e w' := by
  obtain ⟨x, v, h1, h2, h3⟩ := h
  exact ⟨x, v, h1, hp x h2, h3⟩

/-- What the operations of 'e.Args = append(e.Args, d.Expr(s, names, deep-1))' leave. -/
def Rd15 (attrs : List Attr) (names : List ByteArray) (d be bd : Nat) (v : Value) (a : Option Addr) (n c : Nat) (an : Option Addr) (nn cn : Nat) (j : Nat) (xs : List ExV) (K : List Nat) (wr : World) : Nat → Value → World → Prop
  | 0, u, _ => u = .pointer (some ⟨be, 5, none⟩)
  | 1, u, _ => u = v
  | 2, u, _ => u = .pointer (some ⟨bd, 0, none⟩)
  | 3, u, _ => u = .agg #[.slice a n c]
  | 4, u, _ => u = .slice an nn cn
  | 5, u, _ => u = .int .i64 ((d : Int) + 1)
  | 6, u, _ => u = .int .i64 (d : Int)
  | 7, u, W => ∃ (e : Ex) (x : ExV), u = x.val ∧ MadeE attrs names d e ∧ IsEx (mask W K) e x.val
  | 8, u, W => ∃ (x0 : Nat) (e : Ex) (x : ExV), u = .slice (some ⟨x0, 0, none⟩) 1 1 ∧ W.heap[x0]? = some (.cells x.cells.toArray 26 (0, 0)) ∧ MadeE attrs names d e ∧ IsEx (mask W K) e x.val ∧ W.ownsRow (be + 1) 26 6 v j (xs.flatMap ExV.cells)
  | 9, u, W => ∃ (g cap : Nat) (e : Ex) (x : ExV), u = .slice (some ⟨g, 0, none⟩) (j + 1) cap ∧ W.ownsRow (be + 1) 26 6 (.slice (some ⟨g, 0, none⟩) (j + 1) cap) (j + 1) ((xs ++ [x]).flatMap ExV.cells) ∧ MadeE attrs names d e ∧ IsEx (mask W (K ++ [g])) e x.val ∧ (v.ownBlock = some g ∨ wr.heap.size ≤ g)
  | 10, u, _ => u = .pointer (some ⟨be, 5, none⟩)
  | _, _, _ => True
def E15 (k : Nat) (W W' : World) : Prop := k = 7 ∨ k = 8 ∨ k = 9 ∨ W = W'
def G15 (v : Value) (w0 wr : World) (bd : Nat) (L : List Nat) (W : World) : Prop := Chg (bd :: rowOf v) wr W ∧ DeckAt w0 W bd ∧ (9 ∉ L → Chg [bd] wr W)
theorem rd15_keeps {ops : Array Oper} {attrs : List Attr} {names : List ByteArray} {d be bd : Nat} {v : Value} {a : Option Addr} {n c : Nat} {an : Option Addr} {nn cn j : Nat} {xs : List ExV} {K : List Nat} {wr : World}
    (hops : (!outlasts ops 11 [9, 10] 7 8 && !outlasts ops 11 [9, 10] 7 9 && !outlasts ops 11 [9, 10] 8 7 && !outlasts ops 11 [9, 10] 8 9 && !outlasts ops 11 [9, 10] 9 7 && !outlasts ops 11 [9, 10] 9 8) = true) :
    ∀ i k u W W', i < 11 → k < 11 → i ≠ k → outlasts ops 11 [9, 10] i k = true → Rd15 attrs names d be bd v a n c an nn cn j xs K wr i u W → E15 k W W' → Rd15 attrs names d be bd v a n c an nn cn j xs K wr i u W' := by
  intro i k u W W' hi hk hne ho hR hE
  simp only [Bool.and_eq_true, Bool.not_eq_true'] at hops
  obtain ⟨⟨⟨⟨⟨q1, q2⟩, q3⟩, q4⟩, q5⟩, q6⟩ := hops
  have hi' : i = 0 ∨ i = 1 ∨ i = 2 ∨ i = 3 ∨ i = 4 ∨ i = 5 ∨ i = 6 ∨ i = 7 ∨ i = 8 ∨ i = 9 ∨ i = 10 := by omega
  have key : ∀ (h : i = 7 ∨ i = 8 ∨ i = 9), W = W' := by
    intro h
    rcases hE with rfl | rfl | rfl | e
    · rcases h with rfl | rfl | rfl
      · exact absurd rfl hne
      · rw [q3] at ho; cases ho
      · rw [q5] at ho; cases ho
    · rcases h with rfl | rfl | rfl
      · rw [q1] at ho; cases ho
      · exact absurd rfl hne
      · rw [q6] at ho; cases ho
    · rcases h with rfl | rfl | rfl
      · rw [q2] at ho; cases ho
      · rw [q4] at ho; cases ho
      · exact absurd rfl hne
    · exact e
  rcases hi' with rfl | rfl | rfl | rfl | rfl | rfl | rfl | rfl | rfl | rfl | rfl
  case inr.inr.inr.inr.inr.inr.inr.inl => rw [← key (by simp)]; exact hR
  case inr.inr.inr.inr.inr.inr.inr.inr.inl => rw [← key (by simp)]; exact hR
  case inr.inr.inr.inr.inr.inr.inr.inr.inr.inl => rw [← key (by simp)]; exact hR
  all_goals exact hR

/-- After j rounds: j arguments have been made. -/
def ArgsI (attrs : List Attr) (names : List ByteArray) (d : Nat) (op k0 : Int) (be bd : Nat) (K0 : List Nat) (w0 wa : World) (k : Value) (wr : World) : Prop := ∃ (l : List Ex) (xs : List ExV) (v : Value), (l.length : Int) ≤ k0 ∧ k = .int .i64 (k0 - l.length) ∧ (∀ e ∈ l, MadeE attrs names d e) ∧
  wr.heap[be]? = some (.cells #[.int .i64 op, .string ⟨#[]⟩, .slice none 0 0, .int .i64 0, .int .i64 0, v] 26 (0, 0)) ∧ wr.ownsRow (be + 1) 26 6 v l.length (xs.flatMap ExV.cells) ∧ ExsR (mask wr (K0 ++ rowOf v)) l xs ∧ Chg [bd] wa wr ∧ DeckAt w0 wr bd

def notV (g : Nat) : ExV := ⟨6, ⟨#[]⟩, none, 0, 0, 0, 0, some ⟨g, 0, none⟩, 1, 1⟩
theorem not_fin {attrs : List Attr} {names : List ByteArray} {d : Nat} {w0 w W : World} {bd B : Nat} {M : List Nat} {v : ExV} {x : Ex} (hc : Chg [bd] w W) (hd : DeckAt w0 W bd) (hB : w.heap.size ≤ B) (hBW : B < W.heap.size) (hbd : bd < w.heap.size) (hm : MadeE attrs names d x) (hx : IsEx (mask W (B :: M)) x v.val) (hM : ∀ y ∈ M, y < W.heap.size) :
    MadeQ (MadeE attrs names (d + 1)) w0 bd M w (.returned (notV W.heap.size).val) ((put6 W B (notV W.heap.size)).alloc (.cells v.cells.toArray 26)) := by
  have h0 : w0.heap.size ≤ bd := by obtain ⟨_, _, _, _, _, _, _, _, _, h⟩ := hd; exact h
  have hp := put6_chg W B (notV W.heap.size) (N := B :: M) (by simp)
  have hp1 := put6_chg W B (notV W.heap.size) (N := [B]) (by simp)
  have hs := put6_size W B (notV W.heap.size)
  generalize put6 W B (notV W.heap.size) = W6 at *
  refine ⟨.mk 6 ⟨#[]⟩ [] 0 0 [x], notV W.heap.size, rfl, ?_, ?_, ?_, ?_⟩
  · exact Or.inr ⟨Or.inl ⟨rfl, rfl⟩, rfl, rfl, rfl, rfl, fun y hy => by simp only [Ex.args, List.mem_singleton] at hy; subst hy; exact hm⟩
  · refine isEx_not (t := 26) (x := v) (alloc_at hs.symm) (fun h => by have := hM _ h; omega) ?_
    exact hx.mono ((hp.alloc _).sub.trans (mask_less _ (fun y hy => List.mem_cons_of_mem _ hy)))
  · exact hd.chg (hp1.alloc _) (by simp; omega) (by simp; omega)
  · exact hc.trans (hp1.alloc _) (by intro y hy; simp at hy; subst hy; exact Or.inr hB)

set_option maxRecDepth 100000 in
set_option maxHeartbeats 8000000 in
theorem dexpr_calls (attrs : List Attr) (names : List ByteArray) (hok : ∀ a ∈ attrs, OkAttr a) (hne : attrs ≠ []) (hl : attrs.length ≤ 1000) (hnl : names.length ≤ 1000) : ∀ (d : Nat), d ≤ 100 → ∀ {w0 w : World} {bd : Nat} (_ : DeckAt w0 w bd) (a : Option Addr) (n c : Nat) (an : Option Addr) (nn cn : Nat) (M : List Nat) (_ : IsSchema (mask w [bd]) attrs (.agg #[.slice a n c])) (_ : IsStrs (mask w [bd]) names an nn cn) (_ : ∀ y ∈ M, y < w.heap.size),
    Calls Tryd.prog 27 #[.pointer (some ⟨bd, 0, none⟩), .agg #[.slice a n c], .slice an nn cn, .int .i64 ((d : Int) + 1)] w (MadeQ (MadeE attrs names (d + 1)) w0 bd M w) := by
  intro d
  induction d using Nat.strongRecOn with
  | _ d ih =>
    intro hd100 w0 w bd hd a n c an nn cn M hs hn hM
    have IH := Lib.hid ih
    have HS := Lib.hid hs
    have HN := Lib.hid hn
    have HM := Lib.hid hM
    have HOK := Lib.hid hok
    have hbd : bd < w.heap.size := by obtain ⟨_, _, _, _, hb, _⟩ := hd; exact blk_lt hb
    have hbd0 : w0.heap.size ≤ bd := by obtain ⟨_, _, _, _, _, _, _, _, _, h⟩ := hd; exact h
    have HDW := Lib.hid (hd.ext (((Ext.refl w).alloc (.cells #[.slice a n c] 50)).alloc (.cells exV0.cells.toArray 26)))
    have HB1 := Lib.hid (blk_alloc (o' := .cells exV0.cells.toArray 26) (alloc_new w (.cells #[.slice a n c] 50)))
    have HB2 := Lib.hid (alloc_at (w := w.alloc (.cells #[.slice a n c] 50)) (o := .cells exV0.cells.toArray 26) (n := w.heap.size + 1) (by simp))
    have HE2 := Lib.hid (fun (W : World) (h : Chg [bd] ((w.alloc (.cells #[.slice a n c] 50)).alloc (.cells exV0.cells.toArray 26)) W) => (((Chg.refl [bd] w).alloc (.cells #[.slice a n c] 50)).alloc (.cells exV0.cells.toArray 26)).then h)
    clear ih hs hn hM hd hok
    go_enter Tryd.func27, Tryd.ntmps27
    go_wp2_with fail
    refine (next_calls HDW.out _ (by omega) (by omega)).mono ?_
    rintro r w1 ⟨r1, rfl, hr0, hr1, hd1, hc1⟩
    have HD1 := Lib.hid hd1
    have HC1 := Lib.hid (HE2.out _ hc1)
    have HB11 := Lib.hid (hc1.blk HB1.out (by simp; omega))
    have HB21 := Lib.hid (hc1.blk HB2.out (by simp; omega))
    clear hd1 hc1 HDW HB1 HB2 HE2
    have hz1 := HC1.out.size
    have hzb := blk_lt HB21.out
    have cs0 := blk_cell HB11.out 0
    simp at cs0
    by_cases hleaf : d = 0 ∨ r1 < 4
    · rcases hleaf with hd0 | hr4
      case' inl =>
        have t1 : decide ((d : Int) + 1 < 2) = true := by simp; omega
        go_wp2_with fail
      case' inr =>
        cases t1 : decide ((d : Int) + 1 < 2)
        all_goals
          have t2 : decide (r1 < 4) = true := by simpa using hr4
          go_wp2_with fail
      all_goals
        refine (next_calls HD1.out _ (by omega) (by omega)).mono ?_
        rintro r w2 ⟨r2, rfl, hs0, hs1, hd2, hc2⟩
        have HD2 := Lib.hid hd2
        have HC2 := Lib.hid (HC1.out.then hc2)
        have HB12 := Lib.hid (hc2.blk HB11.out (by simp; omega))
        have HB22 := Lib.hid (hc2.blk HB21.out (by simp; omega))
        clear hd2 hc2 cs0
        have cs0 := blk_cell HB12.out 0
        simp at cs0
        have hz2 := blk_lt HB22.out
        have hb2 := HB22.out
        unfold exV0 ExV.cells at hb2
        obtain ⟨b0, b1, b2, b3, b4, b5, bf⟩ := blk6 hb2
        clear hb2
        by_cases h10 : r2 = 10
        · subst h10
          go_wp2_with fail
          refine bodyPost_ret (v := (ExV.mk 1 ⟨#[]⟩ none 0 0 0 0 none 0 0).val) (by simp [results, Tryd.results27, go_sem, ExV.val, exV, b0, b1, b2, b3, b4, b5]) rfl ?_
          exact made_fin (e := .mk 1 ⟨#[]⟩ [] 0 0 []) (x := ⟨1, ⟨#[]⟩, none, 0, 0, 0, 0, none, 0, 0⟩) HC2.out HD2.out (by omega) hbd (MadeE.atom ⟨rfl, Or.inl ⟨rfl, rfl, rfl, rfl, rfl⟩⟩ (by omega)) (isEx_plain _ 1 0 0 ⟨#[]⟩)
        · have e10 : (r2 == 10) = false := by simpa using h10
          by_cases h11 : r2 = 11
          · subst h11
            go_wp2_with fail
            refine bodyPost_ret (v := (ExV.mk 2 ⟨#[]⟩ none 0 0 0 0 none 0 0).val) (by simp [results, Tryd.results27, go_sem, ExV.val, exV, b0, b1, b2, b3, b4, b5]) rfl ?_
            exact made_fin (e := .mk 2 ⟨#[]⟩ [] 0 0 []) (x := ⟨2, ⟨#[]⟩, none, 0, 0, 0, 0, none, 0, 0⟩) HC2.out HD2.out (by omega) hbd (MadeE.atom ⟨rfl, Or.inr (Or.inl ⟨rfl, rfl, rfl, rfl, rfl⟩)⟩ (by omega)) (isEx_plain _ 2 0 0 ⟨#[]⟩)
          · have e11 : (r2 == 11) = false := by simpa using h11
            go_wp2_with fail
            refine (atom_calls HD2.out attrs names a n c an nn cn ((w.heap.size + 1) :: M) (HS.out.mono HC2.out.sub) (HN.out.mono HC2.out.sub) HOK.out hne hl hnl (fun q hq => by
              rcases List.mem_cons.1 hq with rfl | hq
              · exact hz2
              · have := HM.out q hq; have := HC2.out.size; omega)).mono ?_
            rintro r w3 ⟨x, v, rfl, hat, hix, hd3, hc3⟩
            have HAT := Lib.hid hat
            have HIX := Lib.hid hix
            have HD3 := Lib.hid hd3
            have HC3 := Lib.hid (HC2.out.then hc3)
            have hb3 := hc3.blk HB22.out (by simp; omega)
            clear hat hix hd3 hc3 b0 b1 b2 b3 b4 b5 bf cs0
            have hz3 := blk_lt hb3
            unfold exV0 ExV.cells at hb3
            obtain ⟨b0, b1, b2, b3, b4, b5, bf⟩ := blk6 hb3
            clear hb3
            unfold ExV.val exV
            go_wp2_with fail
            refine bodyPost_ret (v := v.val) (by simp [results, Tryd.results27, go_sem, ExV.val, exV, b0, b1, b2, b3, b4, b5]) rfl ?_
            exact made_fin (e := x) (x := v) HC3.out HD3.out (by omega) hbd (MadeE.atom HAT.out (by omega)) HIX.out
    · obtain ⟨d', rfl⟩ : ∃ d', d = d' + 1 := ⟨d - 1, by omega⟩
      have t1 : decide (((d' + 1 : Nat) : Int) + 1 < 2) = false := by simp; omega
      have t2 : decide (r1 < 4) = false := by simp; omega
      have hr4 : 4 ≤ r1 := by omega
      clear hleaf
      by_cases h6 : r1 < 6
      · have t3 : decide (r1 < 6) = true := by simpa using h6
        go_wp2_with fail
        refine (IH.out d' (by omega) (by omega) HD1.out a n c an nn cn ((w.heap.size + 1) :: M) (HS.out.mono HC1.out.sub) (HN.out.mono HC1.out.sub) (fun q hq => by
          rcases List.mem_cons.1 hq with rfl | hq
          · exact hzb
          · have := HM.out q hq; omega)).mono ?_
        rintro r w2 ⟨x, v, rfl, hmx, hix, hd2, hc2⟩
        have HMX := Lib.hid hmx
        have HIX := Lib.hid hix
        have HD2 := Lib.hid hd2
        have HC2 := Lib.hid (HC1.out.then hc2)
        have HB22 := Lib.hid (hc2.blk HB21.out (by simp; omega))
        have hz2 := blk_lt HB22.out
        have hb2 := HB22.out
        unfold exV0 ExV.cells at hb2
        clear hmx hix hd2 hc2 cs0
        obtain ⟨b0, b1, b2, b3, b4, b5, bf⟩ := blk6 hb2
        clear hb2
        have HFIN := Lib.hid (not_fin HC2.out HD2.out (show w.heap.size ≤ w.heap.size + 1 by omega) hz2 hbd HMX.out HIX.out (fun q hq => by have := HM.out q hq; have := HC2.out.size; omega))
        unfold ExV.val exV
        go_wp2_with fail
        refine bodyPost_ret (v := (notV w2.heap.size).val) (by simp [results, Tryd.results27, go_sem, notV, ExV.val, exV, b0, b1, b2, b3, b4, b5, hz2]) rfl ?_
        exact HFIN.out
      · have t3 : decide (r1 < 6) = false := by simpa using h6
        have HNB := Lib.hid (alloc_new w1 (.cells #[.int .i64 (r1 + 1), .string ⟨#[]⟩, .slice none 0 0, .int .i64 0, .int .i64 0, .slice none 0 0] 26))
        have HEB := Lib.hid (fun (W : World) (h : Chg [bd] (w1.alloc (.cells #[.int .i64 (r1 + 1), .string ⟨#[]⟩, .slice none 0 0, .int .i64 0, .int .i64 0, .slice none 0 0] 26)) W) => ((Chg.refl [bd] w1).alloc (.cells #[.int .i64 (r1 + 1), .string ⟨#[]⟩, .slice none 0 0, .int .i64 0, .int .i64 0, .slice none 0 0] 26)).then h)
        go_wp2_with fail
        refine (range_calls (HD1.out.ext ((Ext.refl w1).alloc _)) _ _ (by omega) (by omega) (by omega)).mono ?_
        rintro r w2 ⟨k0, rfl, hk0, hk1, hd2, hc2⟩
        have HD2 := Lib.hid hd2
        have HC2 := Lib.hid (HEB.out _ hc2)
        have HX2 := Lib.hid (hc2.blk HNB.out (by simp; omega))
        clear hd2 hc2 HNB HEB cs0
        go_wp2_with fail
        go_loopw [11] (ArgsI attrs names (d' + 1) (r1 + 1) k0 w1.heap.size bd ((w.heap.size + 1) :: w1.heap.size :: bd :: M) w0 w1) (fun k _ => (intOf k).toNat)
        case atStart => exact ⟨[], [], .slice none 0 0, by simp; omega, by simp, by simp, HX2.out, World.ownsRow_nil _ _ _ _, ExsR.nil _, HC2.out, HD2.out⟩
        case round =>
          obtain ⟨l, xs, v, hlk, rfl, hml, hbe, hown, hex, hcr, hdr⟩ := hrel
          clear HD2 HC2 HX2
          have HML := Lib.hid hml
          have HBX := Lib.hid hbe
          have HOW := Lib.hid hown
          have HEX := Lib.hid hex
          have HCR := Lib.hid hcr
          have HDR := Lib.hid hdr
          have hrow : ∀ q ∈ rowOf v, w1.heap.size + 1 ≤ q := fun q hq => (hown.lt q (mem_rowOf.1 hq)).1
          have hrowlt : ∀ q ∈ rowOf v, q < wr.heap.size := fun q hq => (hown.lt q (mem_rowOf.1 hq)).2
          have HROW := Lib.hid hrow
          have HROWL := Lib.hid hrowlt
          have hbel := blk_lt hbe
          have hzr := hcr.size
          obtain ⟨e0, e1, e2, e3, e4, e5, ef⟩ := blk6 hbe
          have cs0 := blk_cell (hcr.blk HB11.out (by simp; omega)) 0
          simp at cs0
          clear hml hbe hown hex hcr hdr hrow hrowlt
          by_cases hlt : (l.length : Int) < k0
          · have t4 : decide (0 < k0 - (l.length : Int)) = true := by simp; omega
            have hl3 : l.length ≤ 3 := by omega
            go_wp2_with fail
            refine wp_region_growL (m := 11) [9, 10] (G15 v w0 wr bd) E15 (Rd15 attrs names (d' + 1) w1.heap.size bd v a n c an nn cn l.length xs (((w.heap.size + 1) :: w1.heap.size :: bd :: M) ++ rowOf v) wr) (by kernel_rfl) (by kernel_rfl) ⟨(Chg.refl _ _).drew, HDR.out.ext ((Ext.refl wr).drew), fun _ => (Chg.refl _ _).drew⟩ (rd15_keeps (by kernel_rfl)) ?_ ?_
            · intro i o hi ho L vs W hiL hnc hG hd ρ hρ
              have hi' : i = 0 ∨ i = 1 ∨ i = 2 ∨ i = 3 ∨ i = 4 ∨ i = 5 ∨ i = 6 ∨ i = 7 ∨ i = 8 ∨ i = 9 ∨ i = 10 := by omega
              clear hi
              have o10 : ρ (.tmp 10) = .pointer (some ⟨w1.heap.size, 0, none⟩) := hρ.out 10 rfl
              have i0 := hρ.ins 0 53 (by omega) rfl (Nat.le_of_ble_eq_true rfl)
              have o0 : ρ (.tmp 0) = .pointer (some ⟨bd, 0, none⟩) := hρ.out 0 rfl
              have o5 : ρ (.tmp 5) = .pointer (some ⟨w.heap.size, 0, none⟩) := hρ.out 5 rfl
              have o2 : ρ (.tmp 2) = .slice an nn cn := hρ.out 2 rfl
              have o3 : ρ (.tmp 3) = .int .i64 ((d' : Int) + 1 + 1) := hρ.out 3 rfl
              have i5 := hρ.ins 5 58 (by omega) rfl (Nat.le_of_ble_eq_true rfl)
              have i2 := hρ.ins 2 55 (by omega) rfl (Nat.le_of_ble_eq_true rfl)
              have i3 := hρ.ins 3 56 (by omega) rfl (Nat.le_of_ble_eq_true rfl)
              have i4 := hρ.ins 4 57 (by omega) rfl (Nat.le_of_ble_eq_true rfl)
              have i6 := hρ.ins 6 59 (by omega) rfl (Nat.le_of_ble_eq_true rfl)
              have i7 := hρ.ins 7 60 (by omega) rfl (Nat.le_of_ble_eq_true rfl)
              have i1 := hρ.ins 1 54 (by omega) rfl (Nat.le_of_ble_eq_true rfl)
              have i8 := hρ.ins 8 61 (by omega) rfl (Nat.le_of_ble_eq_true rfl)
              have i10 := hρ.ins 10 63 (by omega) rfl (Nat.le_of_ble_eq_true rfl)
              have i9 := hρ.ins 9 62 (by omega) rfl (Nat.le_of_ble_eq_true rfl)
              have hcs := hρ.const
              have hfn := hρ.func
              clear hρ
              have HGN := Lib.hid (show ∀ i, i ≠ 9 → G15 v w0 wr bd (L ++ [i]) W from fun i hi => ⟨hG.1, hG.2.1, fun h => hG.2.2 (fun h' => h (List.mem_append_left _ h'))⟩)
              have HG := Lib.hid hG
              have cE := hG.1.cell e5 (fun h => by
                rcases List.mem_cons.1 h with h | h
                · have h2 : w1.heap.size = bd := h; omega
                · have h2 : w1.heap.size + 1 ≤ w1.heap.size := HROW.out _ h; omega)
              have cS := hG.1.cell cs0 (fun h => by
                rcases List.mem_cons.1 h with h | h
                · have h2 : w.heap.size = bd := h; omega
                · have h2 : w1.heap.size + 1 ≤ w.heap.size := HROW.out _ h; omega)
              have hws := hG.1.size
              clear hG e0 e1 e2 e3 e4 e5 ef cs0
              rcases hi' with rfl | rfl | rfl | rfl | rfl | rfl | rfl | rfl | rfl | rfl | rfl
              · cases ho
                unfold GivesOp
                go_simp
                exact ⟨Or.inr (Or.inr (Or.inr rfl)), HGN.out _ (by simp), rfl⟩
              · cases ho
                have h0 : vs 0 = _ := hd ⟨0, .data⟩ (by simp) rfl
                rw [h0] at i0
                unfold GivesOp
                go_simp
                exact ⟨Or.inr (Or.inr (Or.inr rfl)), HGN.out _ (by simp), rfl⟩
              · cases ho
                unfold GivesOp
                go_simp
                exact ⟨Or.inr (Or.inr (Or.inr rfl)), HGN.out _ (by simp), rfl⟩
              · cases ho
                unfold GivesOp
                go_simp
                exact ⟨Or.inr (Or.inr (Or.inr rfl)), HGN.out _ (by simp), rfl⟩
              · cases ho
                unfold GivesOp
                go_simp
                exact ⟨Or.inr (Or.inr (Or.inr rfl)), HGN.out _ (by simp), rfl⟩
              · cases ho
                unfold GivesOp
                go_simp
                exact ⟨Or.inr (Or.inr (Or.inr rfl)), HGN.out _ (by simp), rfl⟩
              · cases ho
                have h5 : vs 5 = _ := hd ⟨5, .data⟩ (by simp) rfl
                rw [h5] at i5
                have ew : IntKind.i64.wrap ((d' : Int) + 1) = (d' : Int) + 1 := IntWalk.i64_in _ (by omega)
                unfold GivesOp
                go_simp
                exact ⟨Or.inr (Or.inr (Or.inr rfl)), HGN.out _ (by simp), rfl⟩
              · cases ho
                have h2 : vs 2 = _ := hd ⟨2, .data⟩ (by simp) rfl
                have h3 : vs 3 = _ := hd ⟨3, .data⟩ (by simp) rfl
                have h4 : vs 4 = _ := hd ⟨4, .data⟩ (by simp) rfl
                have h6' : vs 6 = _ := hd ⟨6, .data⟩ (by simp) rfl
                rw [h2] at i2
                rw [h3] at i3
                rw [h4] at i4
                rw [h6'] at i6
                unfold GivesOp
                go_simp
                have hno : 9 ∉ L := fun h => by have := hnc 9 h; revert this; decide +kernel
                have hCW := HG.out.2.2 hno
                have hCw := HC1.out.then (HCR.out.then hCW)
                refine (IH.out d' (by omega) (by omega) HG.out.2.1 a n c an nn cn (((w.heap.size + 1) :: w1.heap.size :: bd :: M) ++ rowOf v) (HS.out.mono hCw.sub) (HN.out.mono hCw.sub) (fun q hq => by
                  have hz := hCw.size
                  rcases List.mem_append.1 hq with hq | hq
                  · simp only [List.mem_cons] at hq
                    rcases hq with rfl | rfl | rfl | hq
                    · omega
                    · omega
                    · omega
                    · have := HM.out q hq; omega
                  · have := HROWL.out q hq; omega)).mono ?_
                rintro e W' ⟨x, xv, rfl, hmx, hix, hd', hc'⟩
                refine ⟨_, rfl, Or.inl rfl, ⟨HG.out.1.trans hc' (fun q hq => Or.inl (by simp at hq; subst hq; simp)), hd', fun _ => hCW.then hc'⟩, x, xv, rfl, hmx, ?_⟩
                simpa using hix
              · cases ho
                obtain ⟨x, xv, h7, hmx, hix⟩ := hd ⟨7, .data⟩ (by simp) rfl
                rw [h7] at i7
                unfold ExV.val exV at i7
                have hno : 9 ∉ L := fun h => by have := hnc 9 h; revert this; decide +kernel
                have HCW := Lib.hid (HG.out.2.2 hno)
                have HMX := Lib.hid hmx
                have HIX := Lib.hid hix
                clear hmx hix
                unfold GivesOp
                go_simp
                refine ⟨Or.inr (Or.inl rfl), ⟨HG.out.1.alloc _, HG.out.2.1.ext ((Ext.refl W).alloc _), fun _ => HCW.out.alloc _⟩, W.heap.size, x, xv, rfl, alloc_new W _, HMX.out, HIX.out.mono (mask_ext _ ((Ext.refl W).alloc _)), ?_⟩
                exact owns_ext (owns_chg HOW.out HCW.out (fun q hq h => by have h2 : q = bd := List.mem_singleton.1 h; have := (HOW.out.lt q hq).1; omega)) ((Ext.refl W).alloc _)
              · cases ho
                have h1 : vs 1 = _ := hd ⟨1, .data⟩ (by simp) rfl
                obtain ⟨x0, x, xv, h8, hx0, hmx, hix, hxo⟩ := hd ⟨8, .data⟩ (by simp) rfl
                rw [h1] at i1
                rw [h8] at i8
                have hnew : ∀ q (hq : q < xv.cells.length), W.cell? ⟨x0, q, none⟩ = some xv.cells[q] := by
                  intro q hq
                  rw [blk_cell hx0]
                  simp [hq]
                refine gives_append elemEx _ _ (w1.heap.size + 1) _ l.length _ i1 x0 1 1 xv.cells i8 rfl (by simp [ExV.cells, Value.oneCell']) (by omega) (by omega) (by omega) hxo hnew (by omega) ?_
                intro g cap w' ho' hg' hl' _
                have hgc : Chg (rowOf v) W w' := grown_chg hg'
                refine ⟨Or.inr (Or.inr (Or.inl rfl)), ⟨HG.out.1.trans hgc (fun q hq => Or.inl (List.mem_cons_of_mem _ hq)), HG.out.2.1.chg hgc (fun h => by have := HROW.out _ h; omega) (fun q hq => by have := HROW.out q hq; omega), fun h => absurd (by simp) h⟩, g, cap, x, xv, rfl, by rw [List.flatMap_append]; simpa using ho', hmx, hix.mono (mask_sub_mask fun q hq hn => ⟨fun h => by
                  rcases List.mem_append.1 h with h | h
                  · exact hn h
                  · have h2 : q = g := List.mem_singleton.1 h
                    rcases hl' with h3 | h3
                    · exact hn (List.mem_append_right _ (mem_rowOf.2 (h2 ▸ h3)))
                    · omega, hgc.block q hq (fun h => hn (List.mem_append_right _ h))⟩), ?_⟩
                rcases hl' with h | h
                · exact Or.inl h
                · exact Or.inr (by omega)
              · cases ho
                unfold GivesOp
                go_simp
                exact ⟨Or.inr (Or.inr (Or.inr rfl)), HGN.out _ (by simp), rfl⟩
            · intro L vs W _ hG hR
              rw [if_neg (by decide +kernel)]
              obtain ⟨g, cap, x, xv, h9, hown2, hmx, hix, hgl⟩ := hR 9 (by simp) (by omega)
              have h10 : vs 10 = _ := hR 10 (by simp) (by omega)
              have hC := hG.1
              have hbx2 := hC.blk HBX.out (fun h => by
                rcases List.mem_cons.1 h with h | h
                · have h2 : w1.heap.size = bd := h; omega
                · have h2 : w1.heap.size + 1 ≤ w1.heap.size := HROW.out _ h; omega)
              have hbl2 := blk_lt hbx2
              have HBX2 := Lib.hid hbx2
              have HOW2 := Lib.hid hown2
              have HC := Lib.hid hC
              have HDK := Lib.hid hG.2.1
              have HMX := Lib.hid hmx
              have HIX := Lib.hid hix
              have HGL := Lib.hid hgl
              clear e0 e1 e2 e3 e4 e5 ef cs0
              obtain ⟨e0, e1, e2, e3, e4, e5, ef⟩ := blk6 hbx2
              clear hG hR hC hbx2 hown2 hmx hix hgl
              unfold wpOp
              simp only [acts, dstAt, List.range, List.range.loop, List.foldl_cons, List.foldl_nil, h9, h10]
              clear h9 h10
              go_simp
              refine Or.inl ?_
              go_wp2_with fail
              go_roundw
              case rel =>
                have hset := (Chg.refl [w1.heap.size] W).setCell (p := ⟨w1.heap.size, 5, none⟩) (Or.inl (by simp)) (.slice (some ⟨g, 0, none⟩) (l.length + 1) cap)
                have hg1 := (HOW2.out.lt g rfl).1
                have hg2 := (HOW2.out.lt g rfl).2
                refine ⟨l ++ [x], xs ++ [xv], .slice (some ⟨g, 0, none⟩) (l.length + 1) cap, by simp; omega, (by simp; omega), ?_, ?_, ?_, ?_, ?_, ?_⟩
                · intro e he
                  rcases List.mem_append.1 he with he | he
                  · exact HML.out e he
                  · simp at he; subst he; exact HMX.out
                · rw [heap_setCell_same _ _ _ _ _ _ HBX2.out]; rfl
                · rw [List.length_append, List.length_singleton]
                  exact owns_chg HOW2.out hset (fun q hq h => by cases hq; have h2 : g = w1.heap.size := List.mem_singleton.1 h; omega)
                · have hrg : rowOf (.slice (some ⟨g, 0, none⟩) (l.length + 1) cap) = [g] := rfl
                  rw [hrg]
                  refine ExsR.snoc (HEX.out.mono (mask_sub_mask fun q hq hn => ⟨fun h => ?_, ?_⟩)) (HIX.out.mono (mask_sub_mask fun q hq hn => ⟨fun h => ?_, ?_⟩))
                  · rcases List.mem_append.1 h with h | h
                    · exact hn (List.mem_append_left _ h)
                    · have h2 : q = g := List.mem_singleton.1 h
                      rcases HGL.out with h3 | h3
                      · exact hn (List.mem_append_right _ (mem_rowOf.2 (h2 ▸ h3)))
                      · omega
                  · rw [hset.block q (by have := HC.out.size; omega) (fun h => hn (by have h2 : q = w1.heap.size := List.mem_singleton.1 h; simp [h2]))]
                    exact HC.out.block q hq (fun h => hn (by
                      rcases List.mem_cons.1 h with h | h
                      · simp [h]
                      · exact List.mem_append_right _ h))
                  · rcases List.mem_append.1 h with h | h
                    · exact hn (List.mem_append_left _ (List.mem_append_left _ h))
                    · exact hn (List.mem_append_right _ h)
                  · exact hset.block q hq (fun h => hn (by have h2 : q = w1.heap.size := List.mem_singleton.1 h; simp [h2]))
                · refine (HCR.out.trans HC.out (fun q hq => ?_)).trans hset (fun q hq => by have h2 : q = w1.heap.size := List.mem_singleton.1 hq; exact Or.inr (by omega))
                  rcases List.mem_cons.1 hq with rfl | hq
                  · exact Or.inl (by simp)
                  · exact Or.inr (by have := HROW.out q hq; omega)
                · exact HDK.out.chg hset (by rw [List.mem_singleton]; omega) (fun q hq => by have h2 : q = w1.heap.size := List.mem_singleton.1 hq; omega)
              case measure => simp [intOf]; omega
          · have hll : (l.length : Int) = k0 := by omega
            have t4 : decide (0 < k0 - (l.length : Int)) = false := by simp; omega
            have hrb := (HCR.out.blk HB21.out (by simp; omega))
            have hra2 := blk_lt hrb
            unfold exV0 ExV.cells at hrb
            obtain ⟨b0, b1, b2, b3, b4, b5, bf⟩ := blk6 hrb
            obtain ⟨sa, sc, hv, hq1, hq2, hq3⟩ := exs_owns (M := (w.heap.size + 1) :: M) HOW.out (fun q hq h => by
              have h1 := (HOW.out.lt q hq).1
              rcases List.mem_cons.1 h with h | h
              · omega
              · have := HM.out q h; omega) (HEX.out.mono (mask_less _ (fun q hq => List.mem_append_left _ (by
                rcases List.mem_cons.1 hq with h | h
                · simp [h]
                · simp [h]))))
            subst hv
            have HFX := Lib.hid (show IsEx (mask wr ((w.heap.size + 1) :: M)) (.mk (r1 + 1) ⟨#[]⟩ [] 0 0 l) (exV (r1 + 1) ⟨#[]⟩ none 0 0 0 0 sa l.length sc) from IsEx.mk ⟨rfl, by omega, Or.inl ⟨rfl, rfl⟩, fun i hi => by simp at hi⟩ rfl hq1 hq2 hq3)
            have HFM := Lib.hid (show MadeE attrs names (d' + 1 + 1) (.mk (r1 + 1) ⟨#[]⟩ [] 0 0 l) from Or.inr ⟨Or.inr ⟨by simp only [Ex.op]; omega, by simp only [Ex.args]; omega, by simp only [Ex.args]; omega⟩, rfl, rfl, rfl, rfl, HML.out⟩)
            clear hrb hq1 hq2 hq3 hll cs0
            go_wp2_with fail
            refine bodyPost_ret (v := (ExV.mk (r1 + 1) ⟨#[]⟩ none 0 0 0 0 sa l.length sc).val) (by simp [results, Tryd.results27, go_sem, ExV.val, exV, b0, b1, b2, b3, b4, b5]) rfl ?_
            exact made_fin (e := .mk (r1 + 1) ⟨#[]⟩ [] 0 0 l) (x := ⟨r1 + 1, ⟨#[]⟩, none, 0, 0, 0, 0, sa, l.length, sc⟩) (HC1.out.then HCR.out) HDR.out (by omega) hbd HFM.out HFX.out
end Go.Proofs.YtaepiiediblleaaDoor

namespace Go.Proofs.YtaepiiediblleaaDoor
open Go.RowKit

instance okAttrDec (a : Attr) : Decidable (OkAttr a) := by unfold OkAttr; infer_instance
theorem schemas_ok : ∀ l ∈ schemas, (∀ a ∈ l, OkAttr a) ∧ l ≠ [] ∧ l.length ≤ 1000 := by
  have h : ∀ l ∈ schemas, (∀ a ∈ l, OkAttr a) ∧ l.length ≠ 0 ∧ l.length ≤ 1000 := by decide +kernel
  intro l hl
  obtain ⟨h1, h2, h3⟩ := h l hl
  exact ⟨h1, fun e => h2 (by rw [e]; rfl), h3⟩
def defOld : List ByteArray := [⟨#[100, 101, 102]⟩, ⟨#[111, 108, 100]⟩]
/-- An expression was made; nothing that was there has changed. -/
def LawExprQ (M : List Nat) (w : World) (e : Ending) (w' : World) : Prop := ∃ (x : Ex) (v : ExV) (attrs : List Attr), e = .returned v.val ∧ attrs ∈ schemas ∧ MadeE attrs defOld 5 x ∧ IsEx (mask w' M) x v.val ∧ Ext w w'

set_option maxRecDepth 100000 in
set_option maxHeartbeats 2000000 in
theorem lexpr_calls (la : Option Addr) (ln lc : Nat) (w : World) (hi : IntsAt w la ln) (hl : ln ≤ 1000000000000000) (M : List Nat) (hM : ∀ y ∈ M, y < w.heap.size) : Calls Tryd.prog 8 #[.slice la ln lc] w (LawExprQ M w) := by
  have HI := Lib.hid (show IntsAt (w.alloc (.cells exV0.cells.toArray 26)) la ln from fun i h => by obtain ⟨b, off, z, e, hc⟩ := hi i h; exact ⟨b, off, z, e, Ext.cell ((Ext.refl w).alloc _) hc⟩)
  have HM := Lib.hid hM
  have HB := Lib.hid (alloc_new w (.cells exV0.cells.toArray 26))
  have HE := Lib.hid ((Ext.refl w).alloc (.cells exV0.cells.toArray 26))
  clear hi hM
  go_enter Tryd.func8, Tryd.ntmps8
  go_wp2_with fail
  refine (new_calls la ln lc _ HI.out hl).mono ?_
  rintro r w1 ⟨bd, rfl, hd1, hx1, hbd⟩
  have HD1 := Lib.hid hd1
  have HX1 := Lib.hid (HE.out.trans hx1)
  have HB1 := Lib.hid (hx1.blk HB.out)
  have hb1 := blk_lt HB1.out
  have hbd1 : w.heap.size + 1 ≤ bd := by simpa using hbd
  have hbdl : bd < w1.heap.size := by obtain ⟨_, _, _, _, hb, _⟩ := hd1; exact blk_lt hb
  clear hd1 hx1 hbd HI
  go_wp2_with fail
  refine (next_calls HD1.out _ (by omega) (by omega)).mono ?_
  rintro r w2 ⟨r2, rfl, hr0, hr1, hd2, hc2⟩
  have HD2 := Lib.hid hd2
  have HC2 := Lib.hid hc2
  have hz2 := hc2.size
  clear hd2 hc2 HD1
  go_wp2_with fail
  refine (schema_calls _ [bd] _ (by simp; omega)).mono ?_
  rintro r w3 ⟨attrs, sv, rfl, hat, hsch, hx3⟩
  obtain ⟨sa, sn, sc, rfl, hsr⟩ := hsch
  have HSCH := Lib.hid (show IsSchema (mask w3 [bd]) attrs (.agg #[.slice sa sn sc]) from ⟨sa, sn, sc, rfl, hsr⟩)
  have HAT := Lib.hid hat
  have HX3 := Lib.hid hx3
  have hz3 := hx3.size
  clear hat hsr hx3
  have HOK := Lib.hid (schemas_ok attrs HAT.out)
  have HNN := Lib.hid (alloc_new w3 (.cells (defOld.map Value.string).toArray 9))
  have HE3 := Lib.hid ((Ext.refl w3).alloc (.cells (defOld.map Value.string).toArray 9))
  have HCALL := Lib.hid (dexpr_calls attrs defOld HOK.out.1 HOK.out.2.1 HOK.out.2.2 (by decide) 4 (by omega) ((HD2.out.ext HX3.out).ext HE3.out) sa sn sc (some ⟨w3.heap.size, 0, none⟩) 2 2 (w.heap.size :: M) (HSCH.out.mono (mask_ext _ HE3.out)) (isStrs_mask (isStrs_block HNN.out rfl) (fun b off e h => by
      have h2 : b = bd := List.mem_singleton.1 h
      have h3 : w3.heap.size = b := by simpa using congrArg (fun o => (o.map Addr.block).getD 0) e
      omega)) (fun y hy => by
      rcases List.mem_cons.1 hy with rfl | hy
      · simp; omega
      · have := HM.out y hy; simp; omega))
  go_wp2_with fail
  refine HCALL.out.mono ?_
  rintro r w4 ⟨x, v, rfl, hm, hix, -, hc4⟩
  have hsx : ∀ q ∈ [bd], w.heap.size ≤ q := fun q hq => by have h2 : q = bd := List.mem_singleton.1 hq; omega
  have HX4 := Lib.hid (hc4.ext (((HC2.out.ext HX1.out hsx).trans HX3.out).trans HE3.out) hsx)
  have hb4 := hc4.blk (HE3.out.blk (HX3.out.blk (HC2.out.blk HB1.out (by rw [List.mem_singleton]; omega)))) (by rw [List.mem_singleton]; omega)
  have hz4 := blk_lt hb4
  unfold exV0 ExV.cells at hb4
  obtain ⟨b0, b1, b2, b3, b4, b5, bf⟩ := blk6 hb4
  have HMX := Lib.hid hm
  have HIX := Lib.hid hix
  clear hm hix hc4 hb4 HCALL
  unfold ExV.val exV
  go_wp2_with fail
  refine bodyPost_ret (v := v.val) (by simp [results, Tryd.results8, go_sem, ExV.val, exV, b0, b1, b2, b3, b4, b5]) rfl ?_
  refine ⟨x, v, attrs, rfl, HAT.out, HMX.out, HIX.out.mono (Sub.trans (b := mask (put6 w4 w.heap.size v) (w.heap.size :: M)) ((put6_chg w4 w.heap.size v (N := w.heap.size :: M) (by simp)).sub) (mask_less _ (fun y hy => List.mem_cons_of_mem _ hy))), ?_⟩
  exact (put6_chg w4 w.heap.size v (N := [w.heap.size]) (by simp)).ext HX4.out (by simp)
end Go.Proofs.YtaepiiediblleaaDoor

namespace Go.Proofs.YtaepiiediblleaaDoor

def nameT (s : ByteArray) : Tok := ⟨1, s, 0, 0⟩
def markT (c : UInt8) : Tok := ⟨4, ⟨#[c]⟩, 0, 0⟩
def numT (n : Int) : Tok := ⟨2, ⟨#[]⟩, n, 0⟩
def wTo : ByteArray := ⟨#[116, 111]⟩

/-- Names with commas between them. -/
def listedT : List ByteArray → List Tok
  | [] => []
  | [s] => [nameT s]
  | s :: r => nameT s :: markT 44 :: listedT r

def paren (op aop : Int) : Bool := aop == 8 || (aop == 7 && op != 8)
mutual
/-- The tokens of an expression. -/
def tokE : Ex → List Tok
  | .mk op name words lo hi args =>
    if op = 1 then [nameT wTrue] else if op = 2 then [nameT wFalse] else if op = 3 then [nameT name] else
    if op = 4 then [nameT name, nameT wIn, markT 40] ++ listedT words ++ [markT 41] else
    if op = 5 then [nameT name, nameT wFrom, numT lo, nameT wTo, numT hi] else
    (if op = 6 then [nameT wNot] else []) ++ tokArgs op args
def tokArgs (op : Int) : List Ex → List Tok
  | [] => []
  | a :: r => (if paren op a.op then [markT 40] ++ tokE a ++ [markT 41] else tokE a) ++ tokMore op r
def tokMore (op : Int) : List Ex → List Tok
  | [] => []
  | a :: r => [nameT (if op = 7 then wAnd else wOr)] ++ (if paren op a.op then [markT 40] ++ tokE a ++ [markT 41] else tokE a) ++ tokMore op r
end

/-- From the k-th token on these tokens stand in the list, wherever in the text. -/
def AtT (toks : List Tok) : Nat → List Tok → Prop
  | _, [] => True
  | k, x :: r => (∃ p, toks[k]? = some ⟨x.kind, x.text, x.num, p⟩) ∧ AtT toks (k + 1) r
theorem AtT.append {toks : List Tok} : (l m : List Tok) → (k : Nat) → AtT toks k (l ++ m) ↔ AtT toks k l ∧ AtT toks (k + l.length) m
  | [], m, k => by simp [AtT]
  | x :: r, m, k => by
    simp only [List.cons_append, AtT, AtT.append r m (k + 1), List.length_cons]
    rw [show k + 1 + r.length = k + (r.length + 1) by omega]
    exact and_assoc.symm

theorem accept_at {toks : List Tok} {k : Nat} {kind : Int} {text : ByteArray} {x : Tok} (h : ∃ p, toks[k]? = some ⟨x.kind, x.text, x.num, p⟩) : acceptB toks k kind text = ((x.kind == kind) && decide (x.text = text)) := by
  obtain ⟨p, h⟩ := h; rw [acceptB, h]
theorem nameTok_at {toks : List Tok} {k : Nat} {x : Tok} (h : ∃ p, toks[k]? = some ⟨x.kind, x.text, x.num, p⟩) : nameTokB toks k = ((x.kind == 1) && nameB x.text) := by
  obtain ⟨p, h⟩ := h; rw [nameTokB, h]
theorem text_at {toks : List Tok} {k : Nat} {x : Tok} (h : ∃ p, toks[k]? = some ⟨x.kind, x.text, x.num, p⟩) : textAt toks k = x.text := by
  obtain ⟨p, h⟩ := h; rw [textAt, h]

/-- The fields of a node are those of its operator. -/
def okNode (e : Ex) : Prop :=
  (e.op = 1 ∧ e.name = ⟨#[]⟩ ∧ e.words = [] ∧ e.lo = 0 ∧ e.hi = 0 ∧ e.args = []) ∨ (e.op = 2 ∧ e.name = ⟨#[]⟩ ∧ e.words = [] ∧ e.lo = 0 ∧ e.hi = 0 ∧ e.args = []) ∨
  (e.op = 3 ∧ nameB e.name = true ∧ e.words = [] ∧ e.lo = 0 ∧ e.hi = 0 ∧ e.args = []) ∨ (e.op = 4 ∧ nameB e.name = true ∧ wordsB e.words = true ∧ e.lo = 0 ∧ e.hi = 0 ∧ e.args = []) ∨
  (e.op = 5 ∧ nameB e.name = true ∧ e.words = [] ∧ numberB e.lo = true ∧ numberB e.hi = true ∧ e.lo ≤ e.hi ∧ e.args = []) ∨
  (e.op = 6 ∧ e.name = ⟨#[]⟩ ∧ e.words = [] ∧ e.lo = 0 ∧ e.hi = 0 ∧ e.args.length = 1) ∨
  ((e.op = 7 ∨ e.op = 8) ∧ e.name = ⟨#[]⟩ ∧ e.words = [] ∧ e.lo = 0 ∧ e.hi = 0 ∧ 2 ≤ e.args.length)
mutual
def okTree : Ex → Prop
  | .mk op name words lo hi args => okNode (.mk op name words lo hi args) ∧ okTrees args
def okTrees : List Ex → Prop
  | [] => True
  | e :: r => okTree e ∧ okTrees r
end

theorem nameB_word {s : ByteArray} (h : nameB s = true) : s ≠ wTrue ∧ s ≠ wFalse ∧ s ≠ wNot ∧ s ≠ wIn ∧ s ≠ wFrom ∧ s ≠ wAnd ∧ s ≠ wOr ∧ s ≠ wTo := by
  simp only [nameB, Bool.and_eq_true, Bool.not_eq_true'] at h
  have h := h.2
  refine ⟨?_, ?_, ?_, ?_, ?_, ?_, ?_, ?_⟩ <;> (rintro rfl; revert h; decide +kernel)

/-- What follows: no and, no or (no list, no range either). -/
def Ends (toks : List Tok) (k : Nat) : Prop := acceptB toks k 1 wAnd = false ∧ acceptB toks k 1 wOr = false ∧ acceptB toks k 1 wIn = false ∧ acceptB toks k 1 wFrom = false

theorem list_read {toks : List Tok} : (ws : List ByteArray) → ws ≠ [] → (k f : Nat) → (acc : List ByteArray) → AtT toks k (listedT ws ++ [markT 41]) → (acc ++ ws).length ≤ 12 → (∀ x ∈ ws, nameB x = true) → (acc ++ ws).Nodup → ws.length ≤ f →
    listLoop toks f k acc = (acc ++ ws, 0, k + (listedT ws).length + 1)
  | [], h, _, _, _, _, _, _, _, _ => absurd rfl h
  | [s], _, k, f, acc, hat, hl, hn, hd, hf => by
    obtain ⟨f, rfl⟩ : ∃ g, f = g + 1 := ⟨f - 1, by simp at hf; omega⟩
    simp only [listedT, List.cons_append, List.nil_append, AtT] at hat
    obtain ⟨h1, h2, _⟩ := hat
    have hs := hn s (by simp)
    have hm : s ∉ acc := by
      rw [List.nodup_append] at hd
      exact fun h => hd.2.2 s h s (by simp) rfl
    rw [listLoop, if_neg (by rw [nameTok_at h1]; simp [nameT, hs]), if_neg (by simp at hl; omega), if_neg (by rw [text_at h1]; exact hm), if_neg (by rw [accept_at h2]; simp [markT]), if_pos (by rw [accept_at h2]; simp [markT]), text_at h1]
    simp [listedT, nameT]
  | s :: s2 :: r, _, k, f, acc, hat, hl, hn, hd, hf => by
    obtain ⟨f, rfl⟩ : ∃ g, f = g + 1 := ⟨f - 1, by simp at hf; omega⟩
    simp only [listedT, List.cons_append, AtT] at hat
    obtain ⟨h1, h2, h3⟩ := hat
    have hs := hn s (by simp)
    have hm : s ∉ acc := by
      rw [List.nodup_append] at hd
      exact fun h => hd.2.2 s h s (by simp) rfl
    rw [listLoop, if_neg (by rw [nameTok_at h1]; simp [nameT, hs]), if_neg (by simp at hl; omega), if_neg (by rw [text_at h1]; exact hm), if_pos (by rw [accept_at h2]; simp [markT]), text_at h1]
    have e : acc ++ [(nameT s).text] ++ (s2 :: r) = acc ++ s :: s2 :: r := by simp [nameT]
    rw [list_read (s2 :: r) (by simp) (k + 2) f (acc ++ [(nameT s).text]) h3 (by rw [e]; exact hl) (fun x hx => hn x (List.mem_cons_of_mem _ hx)) (by rw [e]; exact hd) (by simp at hf ⊢; omega), e]
    simp [listedT]
    omega
end Go.Proofs.YtaepiiediblleaaDoor

namespace Go.Proofs.YtaepiiediblleaaDoor

/-- The tokens of an argument. -/
def argT (op : Int) (a : Ex) : List Tok := if paren op a.op then [markT 40] ++ tokE a ++ [markT 41] else tokE a
theorem tokArgs_cons (op : Int) (a : Ex) (r : List Ex) : tokArgs op (a :: r) = argT op a ++ tokMore op r := by rw [tokArgs]; rfl
theorem tokMore_cons (op : Int) (a : Ex) (r : List Ex) : tokMore op (a :: r) = nameT (if op = 7 then wAnd else wOr) :: (argT op a ++ tokMore op r) := by rw [tokMore]; simp [argT]

/-- What follows is no word that goes on with an atom. -/
def NoTail (toks : List Tok) (k : Nat) : Prop := acceptB toks k 1 wIn = false ∧ acceptB toks k 1 wFrom = false
theorem noTail_name {toks : List Tok} {k : Nat} {s : ByteArray} (h : ∃ p, toks[k]? = some ⟨(nameT s).kind, (nameT s).text, (nameT s).num, p⟩) (h1 : s ≠ wIn) (h2 : s ≠ wFrom) : NoTail toks k := by
  constructor <;> (rw [accept_at h]; simp [nameT, h1, h2])
theorem noTail_mark {toks : List Tok} {k : Nat} {c : UInt8} (h : ∃ p, toks[k]? = some ⟨(markT c).kind, (markT c).text, (markT c).num, p⟩) : NoTail toks k := by
  constructor <;> (rw [accept_at h]; simp [markT])
theorem wAnd_ne : wAnd ≠ wIn ∧ wAnd ≠ wFrom ∧ wOr ≠ wIn ∧ wOr ≠ wFrom ∧ wOr ≠ wAnd ∧ wNot ≠ wTrue ∧ wNot ≠ wFalse := by decide +kernel
theorem ends_mark {toks : List Tok} {k : Nat} {c : UInt8} (h : ∃ p, toks[k]? = some ⟨(markT c).kind, (markT c).text, (markT c).num, p⟩) : acceptB toks k 1 wAnd = false ∧ acceptB toks k 1 wOr = false := by
  constructor <;> (rw [accept_at h]; simp [markT])

/-- What the tokens of an expression are read as. -/
def Reads (toks : List Tok) (e : Ex) : Prop := ∀ k, AtT toks k (tokE e) → NoTail toks (k + (tokE e).length) →
  (e.op ≠ 7 → e.op ≠ 8 → Gr toks .neg k [] e 0 (k + (tokE e).length)) ∧ (e.op = 7 → acceptB toks (k + (tokE e).length) 1 wAnd = false → Gr toks .ands k [] e 0 (k + (tokE e).length)) ∧
  (e.op = 8 → acceptB toks (k + (tokE e).length) 1 wAnd = false → acceptB toks (k + (tokE e).length) 1 wOr = false → Gr toks .ors k [] e 0 (k + (tokE e).length))

theorem Reads.ands {toks : List Tok} {e : Ex} (h : Reads toks e) (h8 : e.op ≠ 8) {k : Nat} (ha : AtT toks k (tokE e)) (ht : NoTail toks (k + (tokE e).length)) (h1 : acceptB toks (k + (tokE e).length) 1 wAnd = false) : Gr toks .ands k [] e 0 (k + (tokE e).length) := by
  by_cases h7 : e.op = 7
  · exact (h k ha ht).2.1 h7 h1
  · exact Gr.andStop (acc := []) ((h k ha ht).1 h7 h8) h1
theorem Reads.ors {toks : List Tok} {e : Ex} (h : Reads toks e) {k : Nat} (ha : AtT toks k (tokE e)) (ht : NoTail toks (k + (tokE e).length)) (h1 : acceptB toks (k + (tokE e).length) 1 wAnd = false) (h2 : acceptB toks (k + (tokE e).length) 1 wOr = false) : Gr toks .ors k [] e 0 (k + (tokE e).length) := by
  by_cases h8 : e.op = 8
  · exact (h k ha ht).2.2 h8 h1 h2
  · exact Gr.orStop (acc := []) (h.ands h8 ha ht h1) h2
theorem not_mark {toks : List Tok} {k : Nat} {c : UInt8} (h : ∃ p, toks[k]? = some ⟨(markT c).kind, (markT c).text, (markT c).num, p⟩) : acceptB toks k 1 wNot = false := by rw [accept_at h]; simp [markT]
/-- An expression in parentheses. -/
theorem Reads.parens {toks : List Tok} {e : Ex} (h : Reads toks e) {k : Nat} (ha : AtT toks k ([markT 40] ++ tokE e ++ [markT 41])) : Gr toks .neg k [] e 0 (k + ([markT 40] ++ tokE e ++ [markT 41]).length) := by
  rw [AtT.append, AtT.append] at ha
  obtain ⟨⟨h1, h2⟩, h3⟩ := ha
  have ho : ∃ p, toks[k]? = some ⟨(markT 40).kind, (markT 40).text, (markT 40).num, p⟩ := h1.1
  simp only [List.length_singleton] at h2
  have hl : k + ([markT 40] ++ tokE e).length = k + 1 + (tokE e).length := by simp; omega
  rw [hl] at h3
  have hc : ∃ p, toks[k + 1 + (tokE e).length]? = some ⟨(markT 41).kind, (markT 41).text, (markT 41).num, p⟩ := h3.1
  have hg := h.ors h2 (noTail_mark hc) (ends_mark hc).1 (ends_mark hc).2
  have := Gr.negAtom (not_mark ho) (Gr.parenOk (by rw [accept_at ho]; simp [markT]) hg (by rw [accept_at hc]; simp [markT]))
  rw [show k + ([markT 40] ++ tokE e ++ [markT 41]).length = k + 1 + (tokE e).length + 1 by simp; omega]
  exact this
/-- An argument of not, or of and. -/
theorem Reads.argNeg {toks : List Tok} {e : Ex} (h : Reads toks e) {op : Int} (hop : op ≠ 8) {k : Nat} (ha : AtT toks k (argT op e)) (ht : NoTail toks (k + (argT op e).length)) : Gr toks .neg k [] e 0 (k + (argT op e).length) := by
  unfold argT at *
  by_cases hp : paren op e.op = true
  · rw [if_pos hp] at *
    exact h.parens ha
  · rw [if_neg hp] at *
    simp only [paren, Bool.or_eq_true, Bool.and_eq_true, beq_iff_eq, bne_iff_ne, not_or, not_and] at hp
    exact (h k ha ht).1 (fun e7 => hp.2 e7 hop) hp.1
/-- An argument of or. -/
theorem Reads.argAnds {toks : List Tok} {e : Ex} (h : Reads toks e) {k : Nat} (ha : AtT toks k (argT 8 e)) (ht : NoTail toks (k + (argT 8 e).length)) (h1 : acceptB toks (k + (argT 8 e).length) 1 wAnd = false) : Gr toks .ands k [] e 0 (k + (argT 8 e).length) := by
  unfold argT at *
  by_cases hp : paren 8 e.op = true
  · rw [if_pos hp] at *
    exact Gr.andStop (acc := []) (h.parens ha) h1
  · rw [if_neg hp] at *
    simp only [paren, Bool.or_eq_true, Bool.and_eq_true, beq_iff_eq, bne_iff_ne, not_or, not_and] at hp
    exact h.ands hp.1 ha ht h1

/-- Arguments of and. -/
theorem ands_read {toks : List Tok} : (r : List Ex) → (a : Ex) → (∀ x ∈ a :: r, Reads toks x) → (acc : List Ex) → (k : Nat) → AtT toks k (argT 7 a ++ tokMore 7 r) → NoTail toks (k + (argT 7 a ++ tokMore 7 r).length) → acceptB toks (k + (argT 7 a ++ tokMore 7 r).length) 1 wAnd = false →
    Gr toks .ands k acc (joinE 7 (acc ++ a :: r)) 0 (k + (argT 7 a ++ tokMore 7 r).length)
  | [], a, hr, acc, k, ha, ht, h1 => by
    simp only [tokMore, List.append_nil] at *
    exact Gr.andStop ((hr a (by simp)).argNeg (by decide) ha ht) h1
  | b :: r, a, hr, acc, k, ha, ht, h1 => by
    rw [tokMore_cons, if_pos rfl, AtT.append] at ha
    obtain ⟨ha1, hw, ha2⟩ := ha
    have hlen : k + (argT 7 a ++ tokMore 7 (b :: r)).length = k + (argT 7 a).length + 1 + (argT 7 b ++ tokMore 7 r).length := by rw [tokMore_cons]; simp; omega
    rw [hlen] at ht h1 ⊢
    have hg := (hr a (by simp)).argNeg (op := 7) (by decide) ha1 (noTail_name hw wAnd_ne.1 wAnd_ne.2.1)
    have ih := ands_read r b (fun x hx => hr x (List.mem_cons_of_mem _ hx)) (acc ++ [a]) (k + (argT 7 a).length + 1) ha2 ht h1
    refine Gr.andStep hg (by rw [accept_at hw]; simp [nameT]) ?_
    simpa using ih
/-- Arguments of or. -/
theorem ors_read {toks : List Tok} : (r : List Ex) → (a : Ex) → (∀ x ∈ a :: r, Reads toks x) → (acc : List Ex) → (k : Nat) → AtT toks k (argT 8 a ++ tokMore 8 r) → NoTail toks (k + (argT 8 a ++ tokMore 8 r).length) → acceptB toks (k + (argT 8 a ++ tokMore 8 r).length) 1 wAnd = false → acceptB toks (k + (argT 8 a ++ tokMore 8 r).length) 1 wOr = false →
    Gr toks .ors k acc (joinE 8 (acc ++ a :: r)) 0 (k + (argT 8 a ++ tokMore 8 r).length)
  | [], a, hr, acc, k, ha, ht, h1, h2 => by
    simp only [tokMore, List.append_nil] at *
    exact Gr.orStop ((hr a (by simp)).argAnds ha ht h1) h2
  | b :: r, a, hr, acc, k, ha, ht, h1, h2 => by
    rw [tokMore_cons, if_neg (by decide), AtT.append] at ha
    obtain ⟨ha1, hw, ha2⟩ := ha
    have hlen : k + (argT 8 a ++ tokMore 8 (b :: r)).length = k + (argT 8 a).length + 1 + (argT 8 b ++ tokMore 8 r).length := by rw [tokMore_cons]; simp; omega
    rw [hlen] at ht h1 h2 ⊢
    have hg := (hr a (by simp)).argAnds ha1 (noTail_name hw wAnd_ne.2.2.1 wAnd_ne.2.2.2.1) (by rw [accept_at hw]; simp [nameT, wAnd_ne.2.2.2.2.1])
    have ih := ors_read r b (fun x hx => hr x (List.mem_cons_of_mem _ hx)) (acc ++ [a]) (k + (argT 8 a).length + 1) ha2 ht h1 h2
    refine Gr.orStep hg (by rw [accept_at hw]; simp [nameT]) ?_
    simpa using ih
theorem okTrees_mem {l : List Ex} (h : okTrees l) : ∀ x ∈ l, okTree x := by
  induction l with
  | nil => intro x hx; simp at hx
  | cons e r ih =>
    unfold okTrees at h
    intro x hx
    rcases List.mem_cons.1 hx with rfl | hx
    · exact h.1
    · exact ih h.2 x hx
theorem operand_gr {toks : List Tok} {k : Nat} {e : Ex} {n : Nat} (h1 : acceptB toks k 4 ⟨#[40]⟩ = false) (h2 : acceptB toks k 1 wNot = false) (h3 : operandF toks k = (⟨e, 1, 1⟩, 0, n)) : Gr toks .neg k [] e 0 n := by
  have := Gr.negAtom h2 (Gr.operand h1)
  rw [h3] at this
  exact this
theorem name_start {toks : List Tok} {k : Nat} {s : ByteArray} (h : ∃ p, toks[k]? = some ⟨(nameT s).kind, (nameT s).text, (nameT s).num, p⟩) (hs : s ≠ wNot) : acceptB toks k 4 ⟨#[40]⟩ = false ∧ acceptB toks k 1 wNot = false := by
  constructor <;> (rw [accept_at h]; simp [nameT, hs])
theorem reads_ok (toks : List Tok) (m : Nat) : ∀ e : Ex, e.size ≤ m → okTree e → Reads toks e := by
  induction m with
  | zero => intro e h; have := e.size_eq; omega
  | succ m ih =>
    intro e hm hok k ha ht
    have hsz := e.size_eq
    have hargs : ∀ x ∈ e.args, Reads toks x := fun x hx => ih x (by have := sizes_mem hx; omega) (by
      cases e; unfold okTree at hok; exact okTrees_mem hok.2 x hx)
    have hnode : okNode e := by cases e; unfold okTree at hok; exact hok.1
    obtain ⟨op, name, words, lo, hi, args⟩ := e
    simp only [Ex.op, Ex.name, Ex.words, Ex.lo, Ex.hi, Ex.args, okNode] at hnode hargs ⊢
    rcases hnode with ⟨rfl, rfl, rfl, rfl, rfl, rfl⟩ | ⟨rfl, rfl, rfl, rfl, rfl, rfl⟩ | ⟨rfl, hn, rfl, rfl, rfl, rfl⟩ | ⟨rfl, hn, hw, rfl, rfl, rfl⟩ | ⟨rfl, hn, rfl, hl, hh, hlh, rfl⟩ | ⟨rfl, rfl, rfl, rfl, rfl, hl⟩ | ⟨hop, rfl, rfl, rfl, rfl, hl⟩
    · refine ⟨fun _ _ => ?_, fun h => by simp at h, fun h => by simp at h⟩
      simp only [tokE, if_true, AtT] at ha ⊢
      have hs := name_start ha.1 (by decide +kernel)
      exact operand_gr hs.1 hs.2 (by rw [operandF, if_pos (by rw [accept_at ha.1]; simp [nameT])]; rfl)
    · refine ⟨fun _ _ => ?_, fun h => by simp at h, fun h => by simp at h⟩
      have e0 : tokE (.mk 2 ⟨#[]⟩ [] 0 0 []) = [nameT wFalse] := by simp [tokE]
      rw [e0] at ha ⊢
      simp only [AtT] at ha
      have hs := name_start ha.1 (by decide +kernel)
      exact operand_gr hs.1 hs.2 (by rw [operandF, if_neg (by rw [accept_at ha.1]; simp [nameT, (by decide +kernel : wFalse ≠ wTrue)]), if_pos (by rw [accept_at ha.1]; simp [nameT])]; rfl)
    · refine ⟨fun _ _ => ?_, fun h => by simp at h, fun h => by simp at h⟩
      have e0 : tokE (.mk 3 name [] 0 0 []) = [nameT name] := by simp [tokE]
      rw [e0] at ha ht ⊢
      simp only [AtT] at ha
      obtain ⟨n1, n2, n3, _⟩ := nameB_word hn
      have hs := name_start ha.1 n3
      refine operand_gr hs.1 hs.2 ?_
      rw [operandF, if_neg (by rw [accept_at ha.1]; simp [nameT, n1]), if_neg (by rw [accept_at ha.1]; simp [nameT, n2]), if_neg (by rw [nameTok_at ha.1]; simp [nameT, hn]), if_neg (by have := ht.1; simp at this; simp [this]), if_neg (by have := ht.2; simp at this; simp [this]), text_at ha.1]
      rfl
    · refine ⟨fun _ _ => ?_, fun h => by simp at h, fun h => by simp at h⟩
      have e0 : tokE (.mk 4 name words 0 0 []) = [nameT name, nameT wIn, markT 40] ++ (listedT words ++ [markT 41]) := by simp [tokE]
      rw [e0, AtT.append] at ha
      rw [e0] at ht ⊢
      obtain ⟨⟨a1, a2, a3, _⟩, a4⟩ := ha
      obtain ⟨n1, n2, n3, _⟩ := nameB_word hn
      have hs := name_start a1 n3
      simp only [wordsB, Bool.and_eq_true, bne_iff_ne, decide_eq_true_eq, List.all_eq_true] at hw
      have hlist : listF toks (k + 2) = (words, 0, k + ([nameT name, nameT wIn, markT 40] ++ (listedT words ++ [markT 41])).length) := by
        rw [listF, if_pos (by rw [accept_at a3]; simp [markT]), list_read words (fun e => hw.1.1.1 (by rw [e]; rfl)) (k + 3) 14 [] a4 (by simpa using hw.1.1.2) hw.1.2 (by simpa using hw.2) (by have := hw.1.1.2; omega)]
        simp
        omega
      refine operand_gr hs.1 hs.2 ?_
      rw [operandF, if_neg (by rw [accept_at a1]; simp [nameT, n1]), if_neg (by rw [accept_at a1]; simp [nameT, n2]), if_neg (by rw [nameTok_at a1]; simp [nameT, hn]), if_pos (by rw [accept_at a2]; simp [nameT]), hlist, text_at a1]
      rfl
    · refine ⟨fun _ _ => ?_, fun h => by simp at h, fun h => by simp at h⟩
      have e0 : tokE (.mk 5 name [] lo hi []) = [nameT name, nameT wFrom, numT lo, nameT wTo, numT hi] := by simp [tokE]
      rw [e0] at ha ht ⊢
      obtain ⟨a1, a2, ⟨p3, a3⟩, a4, ⟨p5, a5⟩, _⟩ := ha
      obtain ⟨n1, n2, n3, _⟩ := nameB_word hn
      have hs := name_start a1 n3
      have hb1 : boundF toks (k + 2) (-1000000000) = (lo, 0, k + 3) := by
        have hlo : -1000000000 ≤ lo := by simp [numberB] at hl; exact hl.1
        rw [boundF, a3]
        simp [numT, hl, hlo]
      have hb2 : boundF toks (k + 4) lo = (hi, 0, k + 5) := by
        rw [boundF, a5]
        simp [numT, hh, hlh]
      have hint : intervalF toks (k + 2) = (lo, hi, 0, k + 5) := by
        unfold intervalF
        simp only [hb1]
        rw [if_neg (by simp), if_neg (by rw [show (⟨#[116, 111]⟩ : ByteArray) = wTo from rfl, accept_at a4]; simp [nameT])]
        simp only [hb2]
      refine operand_gr hs.1 hs.2 ?_
      rw [operandF, if_neg (by rw [accept_at a1]; simp [nameT, n1]), if_neg (by rw [accept_at a1]; simp [nameT, n2]), if_neg (by rw [nameTok_at a1]; simp [nameT, hn]), if_neg (by rw [accept_at a2]; simp [nameT, (by decide +kernel : wFrom ≠ wIn)]), if_pos (by rw [accept_at a2]; simp [nameT]), hint, text_at a1]
      rfl
    · refine ⟨fun _ _ => ?_, fun h => by simp at h, fun h => by simp at h⟩
      obtain ⟨x, rfl⟩ : ∃ x, args = [x] := by
        match args, hl with
        | [x], _ => exact ⟨x, rfl⟩
      have e0 : tokE (.mk 6 ⟨#[]⟩ [] 0 0 [x]) = nameT wNot :: argT 6 x := by
        rw [tokE]; simp [tokArgs_cons, tokMore]
      rw [e0] at ha ht ⊢
      have hlen : k + (nameT wNot :: argT 6 x).length = k + 1 + (argT 6 x).length := by simp; omega
      rw [hlen] at ht ⊢
      exact Gr.notOk (by rw [accept_at ha.1]; simp [nameT]) ((hargs x (by simp)).argNeg (by decide) ha.2 ht)
    · obtain ⟨a, b, r, rfl⟩ : ∃ a b r, args = a :: b :: r := by
        match args, hl with
        | a :: b :: r, _ => exact ⟨a, b, r, rfl⟩
      rcases hop with rfl | rfl
      · have e0 : tokE (.mk 7 ⟨#[]⟩ [] 0 0 (a :: b :: r)) = argT 7 a ++ tokMore 7 (b :: r) := by rw [tokE]; simp [tokArgs_cons]
        rw [e0] at ha ht ⊢
        exact ⟨fun h => absurd rfl h, fun _ h1 => ands_read (b :: r) a hargs [] k ha ht h1, fun h => by simp at h⟩
      · have e0 : tokE (.mk 8 ⟨#[]⟩ [] 0 0 (a :: b :: r)) = argT 8 a ++ tokMore 8 (b :: r) := by rw [tokE]; simp [tokArgs_cons]
        rw [e0] at ha ht ⊢
        exact ⟨fun _ h => absurd rfl h, fun h => by simp at h, fun _ h1 h2 => ors_read (b :: r) a hargs [] k ha ht h1 h2⟩
/-- The tokens of an expression at the end of a list are read as the expression. -/
theorem run_ok {toks : List Tok} {e : Ex} {k : Nat} (hok : okTree e) (ha : AtT toks k (tokE e)) (hend : toks.length ≤ k + (tokE e).length) : run toks true k [] lvl0 = (partOf e, 0, k + (tokE e).length) := by
  have hno : ∀ kind text, acceptB toks (k + (tokE e).length) kind text = false := fun kind text => by rw [acceptB, List.getElem?_eq_none hend]
  have := Gr.run ((reads_ok toks e.size e (Nat.le_refl _) hok).ors ha ⟨hno _ _, hno _ _⟩ (hno _ _) (hno _ _))
  simpa using this
end Go.Proofs.YtaepiiediblleaaDoor
