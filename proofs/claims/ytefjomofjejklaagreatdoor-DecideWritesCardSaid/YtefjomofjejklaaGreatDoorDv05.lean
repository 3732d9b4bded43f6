/-
  Texts of the claim, joined: Made2, Conv, Upto, Clause, Cla, Ref1, Slim, Ref2.
-/
import Derived.Test.YtefjomofjejklaaGreatDoorDv04
import Derived.Laws.BytesString
namespace Go.Proofs.YtefjomofjejklaaGreatDoor
set_option maxRecDepth 100000
set_option maxHeartbeats 32000000
open Go.RowKit
def MadeE (attrs : List Attr) (names : ZB) : Nat -> Ex -> Prop
 | 0, _ => False
 | d + 1, e => AtomOf attrs names e \/ ((e.op = 6 /\ e.args.length = 1 \/ (e.op = 7 \/ e.op = 8) /\ 2 <= e.args.length /\ e.args.length <= 3) /\ e.name = ⟨#[]⟩ /\ e.words = [] /\ e.lo = 0 /\ e.hi = 0 /\ ∀ x ∈ e.args, MadeE attrs names d x)
theorem MadeE.atom {attrs : List Attr} {names : ZB} {d : Nat} {e : Ex} (h : AtomOf attrs names e) (hd : 0 < d) : MadeE attrs names d e := by
 obtain ⟨d, rfl⟩ : ∃ k, d = k + 1 := ⟨d - 1, by omega⟩
 exact Or.inl h
theorem MadeQ.mono {P P' : Ex -> Prop} {w0 : World} {bd : Nat} {M : ZN} {w : World} {e : Ending} {w' : World} (h : MadeQ P w0 bd M w e w') (hp : ∀ x, P x -> P' x) : MadeQ P' w0 bd M w e w' := by
 obtain ⟨x, v, h1, h2, h3⟩ := h
 exact ⟨x, v, h1, hp x h2, h3⟩
def Rd15 (attrs : List Attr) (names : ZB) (d be bd : Nat) (v : Value) (a : OA) (n c : Nat) (an : OA) (nn cn : Nat) (j : Nat) (xs : List ExV) (K : ZN) (wr : World) : Nat -> Value -> World -> Prop
 | 0, u, _ => u = .pointer (some ⟨be, 5, none⟩)
 | 1, u, _ => u = v
 | 2, u, _ => u = .pointer (some ⟨bd, 0, none⟩)
 | 3, u, _ => u = .agg #[.slice a n c]
 | 4, u, _ => u = .slice an nn cn
 | 5, u, _ => u = .int .i64 ((d : Int) + 1)
 | 6, u, _ => u = .int .i64 (d : Int)
 | 7, u, W => ∃ (e : Ex) (x : ExV), u = x.val /\ MadeE attrs names d e /\ IsEx (mask W K) e x.val
 | 8, u, W => ∃ (x0 : Nat) (e : Ex) (x : ExV), u = .slice (some ⟨x0, 0, none⟩) 1 1 /\ W.heap[x0]? = some (.cells x.cells.toArray 45 (0, 0)) /\ MadeE attrs names d e /\ IsEx (mask W K) e x.val /\ W.ownsRow (be + 1) 45 6 v j (xs.flatMap ExV.cells)
 | 9, u, W => ∃ (g cap : Nat) (e : Ex) (x : ExV), u = .slice (some ⟨g, 0, none⟩) (j + 1) cap /\ W.ownsRow (be + 1) 45 6 (.slice (some ⟨g, 0, none⟩) (j + 1) cap) (j + 1) ((xs ++ [x]).flatMap ExV.cells) /\ MadeE attrs names d e /\ IsEx (mask W (K ++ [g])) e x.val /\ (v.ownBlock = some g \/ wr.heap.size <= g)
 | 10, u, _ => u = .pointer (some ⟨be, 5, none⟩)
 | _, _, _ => True
def E15 (k : Nat) (W W' : World) : Prop := k = 7 \/ k = 8 \/ k = 9 \/ W = W'
def G15 (v : Value) (w0 wr : World) (bd : Nat) (L : ZN) (W : World) : Prop := Chg (bd :: rowOf v) wr W /\ DeckAt w0 W bd /\ (9 ∉ L -> Chg [bd] wr W)
theorem rd15_keeps {ops : Array Oper} {attrs : List Attr} {names : ZB} {d be bd : Nat} {v : Value} {a : OA} {n c : Nat} {an : OA} {nn cn j : Nat} {xs : List ExV} {K : ZN} {wr : World}
  (hops : (!outlasts ops 11 [9, 10] 7 8 && !outlasts ops 11 [9, 10] 7 9 && !outlasts ops 11 [9, 10] 8 7 && !outlasts ops 11 [9, 10] 8 9 && !outlasts ops 11 [9, 10] 9 7 && !outlasts ops 11 [9, 10] 9 8) = true) :
  ∀ i k u W W', i < 11 -> k < 11 -> i ≠ k -> outlasts ops 11 [9, 10] i k = true -> Rd15 attrs names d be bd v a n c an nn cn j xs K wr i u W -> E15 k W W' -> Rd15 attrs names d be bd v a n c an nn cn j xs K wr i u W' := by
 intro i k u W W' hi hk hne ho hR hE
 simp only [Bool.and_eq_true, Bool.not_eq_true'] at hops
 obtain ⟨⟨⟨⟨⟨q1, q2⟩, q3⟩, q4⟩, q5⟩, q6⟩ := hops
 have hi' := ltc11 hi
 have key : ∀ (h : i = 7 \/ i = 8 \/ i = 9), W = W' := by
  intro h
  rcases hE with rfl | rfl | rfl | e
  ·rcases h with rfl | rfl | rfl
   ·exact absurd rfl hne
   ·rw [q3] at ho; cases ho
   rw [q5] at ho; cases ho
  ·rcases h with rfl | rfl | rfl
   ·rw [q1] at ho; cases ho
   ·exact absurd rfl hne
   rw [q6] at ho; cases ho
  ·rcases h with rfl | rfl | rfl
   ·rw [q2] at ho; cases ho
   ·rw [q4] at ho; cases ho
   exact absurd rfl hne
  exact e
 rcases hi' with rfl | rfl | rfl | rfl | rfl | rfl | rfl | rfl | rfl | rfl | rfl
 case inr.inr.inr.inr.inr.inr.inr.inl => rw [<- key (by simp)]; exact hR
 case inr.inr.inr.inr.inr.inr.inr.inr.inl => rw [<- key (by simp)]; exact hR
 case inr.inr.inr.inr.inr.inr.inr.inr.inr.inl => rw [<- key (by simp)]; exact hR
 all_goals exact hR
def ArgsI (attrs : List Attr) (names : ZB) (d : Nat) (op k0 : Int) (be bd : Nat) (K0 : ZN) (w0 wa : World) (k : Value) (wr : World) : Prop := ∃ (l : List Ex) (xs : List ExV) (v : Value), (l.length : Int) <= k0 /\ k = .int .i64 (k0 - l.length) /\ (∀ e ∈ l, MadeE attrs names d e) /\
 wr.heap[be]? = some (.cells #[.int .i64 op, .string ⟨#[]⟩, .slice none 0 0, .int .i64 0, .int .i64 0, v] 45 (0, 0)) /\ wr.ownsRow (be + 1) 45 6 v l.length (xs.flatMap ExV.cells) /\ ExsR (mask wr (K0 ++ rowOf v)) l xs /\ Chg [bd] wa wr /\ DeckAt w0 wr bd
def notV (g : Nat) : ExV := ⟨6, ⟨#[]⟩, none, 0, 0, 0, 0, some ⟨g, 0, none⟩, 1, 1⟩
theorem not_fin {attrs : List Attr} {names : ZB} {d : Nat} {w0 w W : World} {bd B : Nat} {M : ZN} {v : ExV} {x : Ex} (hc : Chg [bd] w W) (hd : DeckAt w0 W bd) (hB : w.heap.size <= B) (hBW : B < W.heap.size) (hbd : bd < w.heap.size) (hm : MadeE attrs names d x) (hx : IsEx (mask W (B :: M)) x v.val) (hM : ∀ y ∈ M, y < W.heap.size) :
  MadeQ (MadeE attrs names (d + 1)) w0 bd M w (.returned (notV W.heap.size).val) ((put6 W B (notV W.heap.size)).alloc (.cells v.cells.toArray 45)) := by
 have h0 : w0.heap.size <= bd := by obtain ⟨_, _, _, _, _, _, _, _, _, h⟩ := hd; exact h
 have hp := put6_chg W B (notV W.heap.size) (N := B :: M) (by simp)
 have hp1 := put6_chg W B (notV W.heap.size) (N := [B]) (by simp)
 have hs := put6_size W B (notV W.heap.size)
 generalize put6 W B (notV W.heap.size) = W6 at *
 refine ⟨.mk 6 ⟨#[]⟩ [] 0 0 [x], notV W.heap.size, rfl, ?_, ?_, ?_, ?_⟩
 ·exact Or.inr ⟨Or.inl ⟨rfl, rfl⟩, rfl, rfl, rfl, rfl, fun y hy => by simp only [Ex.args, List.mem_singleton] at hy; subst hy; exact hm⟩
 ·refine isEx_not (t := 45) (x := v) (alloc_at hs.symm) (fun h => by have := hM _ h; omega) ?_
  exact hx.mono ((hp.alloc _).sub.trans (mask_less _ (fun y hy => List.mem_cons_of_mem _ hy)))
 ·exact hd.chg (hp1.alloc _) (by simp; omega) (by simp; omega)
 exact hc.trans (hp1.alloc _) (by intro y hy; simp at hy; subst hy; exact Or.inr hB)
theorem dexpr_calls (attrs : List Attr) (names : ZB) (hok : ∀ a ∈ attrs, OkAttr a) (hne : attrs ≠ []) (hl : attrs.length <= 1000) (hnl : names.length <= 1000) : ∀ (d : Nat), d <= 100 -> ∀ {w0 w : World} {bd : Nat} (_ : DeckAt w0 w bd) (a : OA) (n c : Nat) (an : OA) (nn cn : Nat) (M : ZN) (_ : IsSchema (mask w [bd]) attrs (.agg #[.slice a n c])) (_ : IsStrs (mask w [bd]) names an nn cn) (_ : ∀ y ∈ M, y < w.heap.size),
  Calls Tryz.prog 40 #[.pointer (some ⟨bd, 0, none⟩), .agg #[.slice a n c], .slice an nn cn, .int .i64 ((d : Int) + 1)] w (MadeQ (MadeE attrs names (d + 1)) w0 bd M w) := by
 intro d
 induction d using Nat.strongRecOn with
 | _ d ih =>
  intro hd100 w0 w bd hd a n c an nn cn M hs hn hM
  have IH := hI ih
  have HS := hI hs
  have HN := hI hn
  have HM := hI hM
  have HOK := hI hok
  have hbd : bd < w.heap.size := by obtain ⟨_, _, _, _, hb, _⟩ := hd; exact blk_lt hb
  have hbd0 : w0.heap.size <= bd := by obtain ⟨_, _, _, _, _, _, _, _, _, h⟩ := hd; exact h
  have HDW := hI (hd.ext (((Ext.refl w).alloc (.cells #[.slice a n c] 24)).alloc (.cells exV0.cells.toArray 45)))
  have HB1 := hI (blk_alloc (o' := .cells exV0.cells.toArray 45) (alloc_new w (.cells #[.slice a n c] 24)))
  have HB2 := hI (alloc_at (w := w.alloc (.cells #[.slice a n c] 24)) (o := .cells exV0.cells.toArray 45) (n := w.heap.size + 1) (by simp))
  have HE2 := hI (fun (W : World) (h : Chg [bd] ((w.alloc (.cells #[.slice a n c] 24)).alloc (.cells exV0.cells.toArray 45)) W) => (((Chg.refl [bd] w).alloc (.cells #[.slice a n c] 24)).alloc (.cells exV0.cells.toArray 45)).then h)
  clear ih hs hn hM hd hok
  go_enter Tryz.func40, Tryz.ntmps40
  go_wp2_with fail
  refine (next_calls HDW.out _ (by omega) (by omega)).mono ?_
  rintro r w1 ⟨r1, rfl, hr0, hr1, hd1, hc1⟩
  have HD1 := hI hd1
  have HC1 := hI (HE2.out _ hc1)
  have HB11 := hI (hc1.blk HB1.out (by simp; omega))
  have HB21 := hI (hc1.blk HB2.out (by simp; omega))
  clear hd1 hc1 HDW HB1 HB2 HE2
  have hz1 := HC1.out.size
  have hzb := blk_lt HB21.out
  have cs0 := blk_cell HB11.out 0
  simp at cs0
  by_cases hleaf : d = 0 \/ r1 < 4
  ·rcases hleaf with hd0 | hr4
   case' inl =>
    have t1 : decide ((d : Int) + 1 < 2) = true := by simp; omega
    go_wp2_with fail
   case' inr =>
    cases t1 : decide ((d : Int) + 1 < 2)
    all_goals
     have t2 : decide (r1 < 4) = true := by simpa using hr4
     go_wp2_with fail
   all_goals
    refine (next_calls HD1.out _ (by omega) (by omega)).mono ?_
    rintro r w2 ⟨r2, rfl, hs0, hs1, hd2, hc2⟩
    have HD2 := hI hd2
    have HC2 := hI (HC1.out.then hc2)
    have HB12 := hI (hc2.blk HB11.out (by simp; omega))
    have HB22 := hI (hc2.blk HB21.out (by simp; omega))
    clear hd2 hc2 cs0
    have cs0 := blk_cell HB12.out 0
    simp at cs0
    have hz2 := blk_lt HB22.out
    have hb2 := HB22.out
    unfold exV0 ExV.cells at hb2
    obtain ⟨b0, b1, b2, b3, b4, b5, bf⟩ := blk6 hb2
    clear hb2
    by_cases h10 : r2 = 10
    ·subst h10
     go_wp2_with fail
     refine bodyPost_ret (v := (ExV.mk 1 ⟨#[]⟩ none 0 0 0 0 none 0 0).val) (by simp [results, Tryz.results40, go_sem, ExV.val, exV, b0, b1, b2, b3, b4, b5]) rfl ?_
     exact made_fin (e := .mk 1 ⟨#[]⟩ [] 0 0 []) (x := ⟨1, ⟨#[]⟩, none, 0, 0, 0, 0, none, 0, 0⟩) HC2.out HD2.out (by omega) hbd (MadeE.atom ⟨rfl, Or.inl ⟨rfl, rfl, rfl, rfl, rfl⟩⟩ (by omega)) (isEx_plain _ 1 0 0 ⟨#[]⟩)
    have e10 : (r2 == 10) = false := by simpa using h10
    by_cases h11 : r2 = 11
    ·subst h11
     go_wp2_with fail
     refine bodyPost_ret (v := (ExV.mk 2 ⟨#[]⟩ none 0 0 0 0 none 0 0).val) (by simp [results, Tryz.results40, go_sem, ExV.val, exV, b0, b1, b2, b3, b4, b5]) rfl ?_
     exact made_fin (e := .mk 2 ⟨#[]⟩ [] 0 0 []) (x := ⟨2, ⟨#[]⟩, none, 0, 0, 0, 0, none, 0, 0⟩) HC2.out HD2.out (by omega) hbd (MadeE.atom ⟨rfl, Or.inr (Or.inl ⟨rfl, rfl, rfl, rfl, rfl⟩)⟩ (by omega)) (isEx_plain _ 2 0 0 ⟨#[]⟩)
    have e11 : (r2 == 11) = false := by simpa using h11
    go_wp2_with fail
    refine (atom_calls HD2.out attrs names a n c an nn cn ((w.heap.size + 1) :: M) (HS.out.mono HC2.out.sub) (HN.out.mono HC2.out.sub) HOK.out hne hl hnl (fun q hq => by
     rcases List.mem_cons.1 hq with rfl | hq
     ·exact hz2
     have := HM.out q hq; have := HC2.out.size; omega)).mono ?_
    rintro r w3 ⟨x, v, rfl, hat, hix, hd3, hc3⟩
    have HAT := hI hat
    have HIX := hI hix
    have HD3 := hI hd3
    have HC3 := hI (HC2.out.then hc3)
    have hb3 := hc3.blk HB22.out (by simp; omega)
    clear hat hix hd3 hc3 b0 b1 b2 b3 b4 b5 bf cs0
    have hz3 := blk_lt hb3
    unfold exV0 ExV.cells at hb3
    obtain ⟨b0, b1, b2, b3, b4, b5, bf⟩ := blk6 hb3
    clear hb3
    unfold ExV.val exV
    go_wp2_with fail
    refine bodyPost_ret (v := v.val) (by simp [results, Tryz.results40, go_sem, ExV.val, exV, b0, b1, b2, b3, b4, b5]) rfl ?_
    exact made_fin (e := x) (x := v) HC3.out HD3.out (by omega) hbd (MadeE.atom HAT.out (by omega)) HIX.out
  obtain ⟨d', rfl⟩ : ∃ d', d = d' + 1 := ⟨d - 1, by omega⟩
  have t1 : decide (((d' + 1 : Nat) : Int) + 1 < 2) = false := by simp; omega
  have t2 : decide (r1 < 4) = false := by simp; omega
  have hr4 : 4 <= r1 := by omega
  clear hleaf
  by_cases h6 : r1 < 6
  ·have t3 : decide (r1 < 6) = true := by simpa using h6
   go_wp2_with fail
   refine (IH.out d' (by omega) (by omega) HD1.out a n c an nn cn ((w.heap.size + 1) :: M) (HS.out.mono HC1.out.sub) (HN.out.mono HC1.out.sub) (fun q hq => by
    rcases List.mem_cons.1 hq with rfl | hq
    ·exact hzb
    have := HM.out q hq; omega)).mono ?_
   rintro r w2 ⟨x, v, rfl, hmx, hix, hd2, hc2⟩
   have HMX := hI hmx
   have HIX := hI hix
   have HD2 := hI hd2
   have HC2 := hI (HC1.out.then hc2)
   have HB22 := hI (hc2.blk HB21.out (by simp; omega))
   have hz2 := blk_lt HB22.out
   have hb2 := HB22.out
   unfold exV0 ExV.cells at hb2
   clear hmx hix hd2 hc2 cs0
   obtain ⟨b0, b1, b2, b3, b4, b5, bf⟩ := blk6 hb2
   clear hb2
   have HFIN := hI (not_fin HC2.out HD2.out (show w.heap.size <= w.heap.size + 1 by omega) hz2 hbd HMX.out HIX.out (fun q hq => by have := HM.out q hq; have := HC2.out.size; omega))
   unfold ExV.val exV
   go_wp2_with fail
   refine bodyPost_ret (v := (notV w2.heap.size).val) (by simp [results, Tryz.results40, go_sem, notV, ExV.val, exV, b0, b1, b2, b3, b4, b5, hz2]) rfl ?_
   exact HFIN.out
  have t3 : decide (r1 < 6) = false := by simpa using h6
  have HNB := hI (alloc_new w1 (.cells #[.int .i64 (r1 + 1), .string ⟨#[]⟩, .slice none 0 0, .int .i64 0, .int .i64 0, .slice none 0 0] 45))
  have HEB := hI (fun (W : World) (h : Chg [bd] (w1.alloc (.cells #[.int .i64 (r1 + 1), .string ⟨#[]⟩, .slice none 0 0, .int .i64 0, .int .i64 0, .slice none 0 0] 45)) W) => ((Chg.refl [bd] w1).alloc (.cells #[.int .i64 (r1 + 1), .string ⟨#[]⟩, .slice none 0 0, .int .i64 0, .int .i64 0, .slice none 0 0] 45)).then h)
  go_wp2_with fail
  refine (range_calls (HD1.out.ext ((Ext.refl w1).alloc _)) _ _ (by omega) (by omega) (by omega)).mono ?_
  rintro r w2 ⟨k0, rfl, hk0, hk1, hd2, hc2⟩
  have HD2 := hI hd2
  have HC2 := hI (HEB.out _ hc2)
  have HX2 := hI (hc2.blk HNB.out (by simp; omega))
  clear hd2 hc2 HNB HEB cs0
  go_wp2_with fail
  go_loopw [11] (ArgsI attrs names (d' + 1) (r1 + 1) k0 w1.heap.size bd ((w.heap.size + 1) :: w1.heap.size :: bd :: M) w0 w1) (fun k _ => (intOf k).toNat)
  case atStart => exact ⟨[], [], .slice none 0 0, by simp; omega, by simp, by simp, HX2.out, World.ownsRow_nil _ _ _ _, ExsR.nil _, HC2.out, HD2.out⟩
  case round =>
   obtain ⟨l, xs, v, hlk, rfl, hml, hbe, hown, hex, hcr, hdr⟩ := hrel
   clear HD2 HC2 HX2
   have HML := hI hml
   have HBX := hI hbe
   have HOW := hI hown
   have HEX := hI hex
   have HCR := hI hcr
   have HDR := hI hdr
   have hrow : ∀ q ∈ rowOf v, w1.heap.size + 1 <= q := fun q hq => (hown.lt q (mem_rowOf.1 hq)).1
   have hrowlt : ∀ q ∈ rowOf v, q < wr.heap.size := fun q hq => (hown.lt q (mem_rowOf.1 hq)).2
   have HROW := hI hrow
   have HROWL := hI hrowlt
   have hbel := blk_lt hbe
   have hzr := hcr.size
   obtain ⟨e0, e1, e2, e3, e4, e5, ef⟩ := blk6 hbe
   have cs0 := blk_cell (hcr.blk HB11.out (by simp; omega)) 0
   simp at cs0
   clear hml hbe hown hex hcr hdr hrow hrowlt
   by_cases hlt : (l.length : Int) < k0
   ·have t4 : decide (0 < k0 - (l.length : Int)) = true := by simp; omega
    have hl3 : l.length <= 3 := by omega
    go_wp2_with fail
    refine wp_region_growL (m := 11) [9, 10] (G15 v w0 wr bd) E15 (Rd15 attrs names (d' + 1) w1.heap.size bd v a n c an nn cn l.length xs (((w.heap.size + 1) :: w1.heap.size :: bd :: M) ++ rowOf v) wr) (by kernel_rfl) (by kernel_rfl) ⟨(Chg.refl _ _).drew, HDR.out.ext ((Ext.refl wr).drew), fun _ => (Chg.refl _ _).drew⟩ (rd15_keeps (by kernel_rfl)) ?_ ?_
    ·intro i o hi ho L vs W hiL hnc hG hd ρ hρ
     have hi' := ltc11 hi
     clear hi
     have o10 : ρ (.tmp 10) = .pointer (some ⟨w1.heap.size, 0, none⟩) := hρ.out 10 rfl
     have i0 := hρ.i 0 53
     have o0 : ρ (.tmp 0) = .pointer (some ⟨bd, 0, none⟩) := hρ.out 0 rfl
     have o5 : ρ (.tmp 5) = .pointer (some ⟨w.heap.size, 0, none⟩) := hρ.out 5 rfl
     have o2 : ρ (.tmp 2) = .slice an nn cn := hρ.out 2 rfl
     have o3 : ρ (.tmp 3) = .int .i64 ((d' : Int) + 1 + 1) := hρ.out 3 rfl
     have i5 := hρ.i 5 58
     have i2 := hρ.i 2 55
     have i3 := hρ.i 3 56
     have i4 := hρ.i 4 57
     have i6 := hρ.i 6 59
     have i7 := hρ.i 7 60
     have i1 := hρ.i 1 54
     have i8 := hρ.i 8 61
     have i10 := hρ.i 10 63
     have i9 := hρ.i 9 62
     have hcs := hρ.const
     have hfn := hρ.func
     clear hρ
     have HGN := hI (show ∀ i, i ≠ 9 -> G15 v w0 wr bd (L ++ [i]) W from fun i hi => ⟨hG.1, hG.2.1, fun h => hG.2.2 (fun h' => h (List.mem_append_left _ h'))⟩)
     have HG := hI hG
     have cE := hG.1.cell e5 (fun h => by
      rcases List.mem_cons.1 h with h | h
      ·have h2 : w1.heap.size = bd := h; omega
      have h2 : w1.heap.size + 1 <= w1.heap.size := HROW.out _ h; omega)
     have cS := hG.1.cell cs0 (fun h => by
      rcases List.mem_cons.1 h with h | h
      ·have h2 : w.heap.size = bd := h; omega
      have h2 : w1.heap.size + 1 <= w.heap.size := HROW.out _ h; omega)
     have hws := hG.1.size
     clear hG e0 e1 e2 e3 e4 e5 ef cs0
     rcases hi' with rfl | rfl | rfl | rfl | rfl | rfl | rfl | rfl | rfl | rfl | rfl
     ·cases ho
      unfold GivesOp
      go_simp
      exact ⟨Or.inr (Or.inr (Or.inr rfl)), HGN.out _ (by simp), rfl⟩
     ·cases ho
      have h0 : vs 0 = _ := hd ⟨0, .data⟩ (by simp) rfl
      rw [h0] at i0
      unfold GivesOp
      go_simp
      exact ⟨Or.inr (Or.inr (Or.inr rfl)), HGN.out _ (by simp), rfl⟩
     ·cases ho
      unfold GivesOp
      go_simp
      exact ⟨Or.inr (Or.inr (Or.inr rfl)), HGN.out _ (by simp), rfl⟩
     ·cases ho
      unfold GivesOp
      go_simp
      exact ⟨Or.inr (Or.inr (Or.inr rfl)), HGN.out _ (by simp), rfl⟩
     ·cases ho
      unfold GivesOp
      go_simp
      exact ⟨Or.inr (Or.inr (Or.inr rfl)), HGN.out _ (by simp), rfl⟩
     ·cases ho
      unfold GivesOp
      go_simp
      exact ⟨Or.inr (Or.inr (Or.inr rfl)), HGN.out _ (by simp), rfl⟩
     ·cases ho
      have h5 : vs 5 = _ := hd ⟨5, .data⟩ (by simp) rfl
      rw [h5] at i5
      have ew : IntKind.i64.wrap ((d' : Int) + 1) = (d' : Int) + 1 := IntWalk.i64_in _ (by omega)
      unfold GivesOp
      go_simp
      exact ⟨Or.inr (Or.inr (Or.inr rfl)), HGN.out _ (by simp), rfl⟩
     ·cases ho
      have h2 : vs 2 = _ := hd ⟨2, .data⟩ (by simp) rfl
      have h3 : vs 3 = _ := hd ⟨3, .data⟩ (by simp) rfl
      have h4 : vs 4 = _ := hd ⟨4, .data⟩ (by simp) rfl
      have h6' : vs 6 = _ := hd ⟨6, .data⟩ (by simp) rfl
      rw [h2] at i2
      rw [h3] at i3
      rw [h4] at i4
      rw [h6'] at i6
      unfold GivesOp
      go_simp
      have hno : 9 ∉ L := fun h => by have := hnc 9 h; revert this; decide +kernel
      have hCW := HG.out.2.2 hno
      have hCw := HC1.out.then (HCR.out.then hCW)
      refine (IH.out d' (by omega) (by omega) HG.out.2.1 a n c an nn cn (((w.heap.size + 1) :: w1.heap.size :: bd :: M) ++ rowOf v) (HS.out.mono hCw.sub) (HN.out.mono hCw.sub) (fun q hq => by
       have hz := hCw.size
       rcases List.mem_append.1 hq with hq | hq
       ·simp only [List.mem_cons] at hq
        rcases hq with rfl | rfl | rfl | hq
        ·omega
        ·omega
        ·omega
        have := HM.out q hq; omega
       have := HROWL.out q hq; omega)).mono ?_
      rintro e W' ⟨x, xv, rfl, hmx, hix, hd', hc'⟩
      refine ⟨_, rfl, Or.inl rfl, ⟨HG.out.1.trans hc' (fun q hq => Or.inl (by simp at hq; subst hq; simp)), hd', fun _ => hCW.then hc'⟩, x, xv, rfl, hmx, ?_⟩
      simpa using hix
     ·cases ho
      obtain ⟨x, xv, h7, hmx, hix⟩ := hd ⟨7, .data⟩ (by simp) rfl
      rw [h7] at i7
      unfold ExV.val exV at i7
      have hno : 9 ∉ L := fun h => by have := hnc 9 h; revert this; decide +kernel
      have HCW := hI (HG.out.2.2 hno)
      have HMX := hI hmx
      have HIX := hI hix
      clear hmx hix
      unfold GivesOp
      go_simp
      refine ⟨Or.inr (Or.inl rfl), ⟨HG.out.1.alloc _, HG.out.2.1.ext ((Ext.refl W).alloc _), fun _ => HCW.out.alloc _⟩, W.heap.size, x, xv, rfl, alloc_new W _, HMX.out, HIX.out.mono (mask_ext _ ((Ext.refl W).alloc _)), ?_⟩
      exact owns_ext (owns_chg HOW.out HCW.out (fun q hq h => by have h2 : q = bd := List.mem_singleton.1 h; have := (HOW.out.lt q hq).1; omega)) ((Ext.refl W).alloc _)
     ·cases ho
      have h1 : vs 1 = _ := hd ⟨1, .data⟩ (by simp) rfl
      obtain ⟨x0, x, xv, h8, hx0, hmx, hix, hxo⟩ := hd ⟨8, .data⟩ (by simp) rfl
      rw [h1] at i1
      rw [h8] at i8
      have hnew : ∀ q (hq : q < xv.cells.length), W.cell? ⟨x0, q, none⟩ = some xv.cells[q] := by
       intro q hq
       rw [blk_cell hx0]
       simp [hq]
      refine gives_append elemEx _ _ (w1.heap.size + 1) _ l.length _ i1 x0 1 1 xv.cells i8 rfl (by simp [ExV.cells, Value.oneCell']) (by omega) (by omega) (by omega) hxo hnew (by omega) ?_
      intro g cap w' ho' hg' hl' _
      have hgc : Chg (rowOf v) W w' := grown_chg hg'
      refine ⟨Or.inr (Or.inr (Or.inl rfl)), ⟨HG.out.1.trans hgc (fun q hq => Or.inl (List.mem_cons_of_mem _ hq)), HG.out.2.1.chg hgc (fun h => by have := HROW.out _ h; omega) (fun q hq => by have := HROW.out q hq; omega), fun h => absurd (by simp) h⟩, g, cap, x, xv, rfl, by rw [List.flatMap_append]; simpa using ho', hmx, hix.mono (mask_sub_mask fun q hq hn => ⟨fun h => by
       rcases List.mem_append.1 h with h | h
       ·exact hn h
       have h2 : q = g := List.mem_singleton.1 h
       rcases hl' with h3 | h3
       ·exact hn (List.mem_append_right _ (mem_rowOf.2 (h2 ▸ h3)))
       omega, hgc.block q hq (fun h => hn (List.mem_append_right _ h))⟩), ?_⟩
      rcases hl' with h | h
      ·exact Or.inl h
      exact Or.inr (by omega)
     cases ho
     unfold GivesOp
     go_simp
     exact ⟨Or.inr (Or.inr (Or.inr rfl)), HGN.out _ (by simp), rfl⟩
    intro L vs W _ hG hR
    rw [if_neg (by decide +kernel)]
    obtain ⟨g, cap, x, xv, h9, hown2, hmx, hix, hgl⟩ := hR 9 (by simp) (by omega)
    have h10 : vs 10 = _ := hR 10 (by simp) (by omega)
    have hC := hG.1
    have hbx2 := hC.blk HBX.out (fun h => by
     rcases List.mem_cons.1 h with h | h
     ·have h2 : w1.heap.size = bd := h; omega
     have h2 : w1.heap.size + 1 <= w1.heap.size := HROW.out _ h; omega)
    have hbl2 := blk_lt hbx2
    have HBX2 := hI hbx2
    have HOW2 := hI hown2
    have HC := hI hC
    have HDK := hI hG.2.1
    have HMX := hI hmx
    have HIX := hI hix
    have HGL := hI hgl
    clear e0 e1 e2 e3 e4 e5 ef cs0
    obtain ⟨e0, e1, e2, e3, e4, e5, ef⟩ := blk6 hbx2
    clear hG hR hC hbx2 hown2 hmx hix hgl
    unfold wpOp
    simp only [acts, dstAt, List.range, List.range.loop, List.foldl_cons, List.foldl_nil, h9, h10]
    clear h9 h10
    go_simp
    refine Or.inl ?_
    go_wp2_with fail
    go_roundw
    case rel =>
     have hset := (Chg.refl [w1.heap.size] W).setCell (p := ⟨w1.heap.size, 5, none⟩) (Or.inl (by simp)) (.slice (some ⟨g, 0, none⟩) (l.length + 1) cap)
     have hg1 := (HOW2.out.lt g rfl).1
     have hg2 := (HOW2.out.lt g rfl).2
     refine ⟨l ++ [x], xs ++ [xv], .slice (some ⟨g, 0, none⟩) (l.length + 1) cap, by simp; omega, (by simp; omega), ?_, ?_, ?_, ?_, ?_, ?_⟩
     ·intro e he
      rcases List.mem_append.1 he with he | he
      ·exact HML.out e he
      simp at he; subst he; exact HMX.out
     ·rw [heap_setCell_same _ _ _ _ _ _ HBX2.out]; rfl
     ·rw [List.length_append, List.length_singleton]
      exact owns_chg HOW2.out hset (fun q hq h => by cases hq; have h2 : g = w1.heap.size := List.mem_singleton.1 h; omega)
     ·have hrg : rowOf (.slice (some ⟨g, 0, none⟩) (l.length + 1) cap) = [g] := rfl
      rw [hrg]
      refine ExsR.snoc (HEX.out.mono (mask_sub_mask fun q hq hn => ⟨fun h => ?_, ?_⟩)) (HIX.out.mono (mask_sub_mask fun q hq hn => ⟨fun h => ?_, ?_⟩))
      ·rcases List.mem_append.1 h with h | h
       ·exact hn (List.mem_append_left _ h)
       have h2 : q = g := List.mem_singleton.1 h
       rcases HGL.out with h3 | h3
       ·exact hn (List.mem_append_right _ (mem_rowOf.2 (h2 ▸ h3)))
       omega
      ·rw [hset.block q (by have := HC.out.size; omega) (fun h => hn (by have h2 : q = w1.heap.size := List.mem_singleton.1 h; simp [h2]))]
       exact HC.out.block q hq (fun h => hn (by
        rcases List.mem_cons.1 h with h | h
        ·simp [h]
        exact List.mem_append_right _ h))
      ·rcases List.mem_append.1 h with h | h
       ·exact hn (List.mem_append_left _ (List.mem_append_left _ h))
       exact hn (List.mem_append_right _ h)
      exact hset.block q hq (fun h => hn (by have h2 : q = w1.heap.size := List.mem_singleton.1 h; simp [h2]))
     ·refine (HCR.out.trans HC.out (fun q hq => ?_)).trans hset (fun q hq => by have h2 : q = w1.heap.size := List.mem_singleton.1 hq; exact Or.inr (by omega))
      rcases List.mem_cons.1 hq with rfl | hq
      ·exact Or.inl (by simp)
      exact Or.inr (by have := HROW.out q hq; omega)
     exact HDK.out.chg hset (by rw [List.mem_singleton]; omega) (fun q hq => by have h2 : q = w1.heap.size := List.mem_singleton.1 hq; omega)
    case measure => simp [intOf]; omega
   have hll : (l.length : Int) = k0 := by omega
   have t4 : decide (0 < k0 - (l.length : Int)) = false := by simp; omega
   have hrb := (HCR.out.blk HB21.out (by simp; omega))
   have hra2 := blk_lt hrb
   unfold exV0 ExV.cells at hrb
   obtain ⟨b0, b1, b2, b3, b4, b5, bf⟩ := blk6 hrb
   obtain ⟨sa, sc, hv, hq1, hq2, hq3⟩ := exs_owns (M := (w.heap.size + 1) :: M) HOW.out (fun q hq h => by
    have h1 := (HOW.out.lt q hq).1
    rcases List.mem_cons.1 h with h | h
    ·omega
    have := HM.out q h; omega) (HEX.out.mono (mask_less _ (fun q hq => List.mem_append_left _ (by
    rcases List.mem_cons.1 hq with h | h
    ·simp [h]
    simp [h]))))
   subst hv
   have HFX := hI (show IsEx (mask wr ((w.heap.size + 1) :: M)) (.mk (r1 + 1) ⟨#[]⟩ [] 0 0 l) (exV (r1 + 1) ⟨#[]⟩ none 0 0 0 0 sa l.length sc) from IsEx.mk ⟨rfl, by omega, Or.inl ⟨rfl, rfl⟩, fun i hi => by simp at hi⟩ rfl hq1 hq2 hq3)
   have HFM := hI (show MadeE attrs names (d' + 1 + 1) (.mk (r1 + 1) ⟨#[]⟩ [] 0 0 l) from Or.inr ⟨Or.inr ⟨by simp only [Ex.op]; omega, by simp only [Ex.args]; omega, by simp only [Ex.args]; omega⟩, rfl, rfl, rfl, rfl, HML.out⟩)
   clear hrb hq1 hq2 hq3 hll cs0
   go_wp2_with fail
   refine bodyPost_ret (v := (ExV.mk (r1 + 1) ⟨#[]⟩ none 0 0 0 0 sa l.length sc).val) (by simp [results, Tryz.results40, go_sem, ExV.val, exV, b0, b1, b2, b3, b4, b5]) rfl ?_
   exact made_fin (e := .mk (r1 + 1) ⟨#[]⟩ [] 0 0 l) (x := ⟨r1 + 1, ⟨#[]⟩, none, 0, 0, 0, 0, sa, l.length, sc⟩) (HC1.out.then HCR.out) HDR.out (by omega) hbd HFM.out HFX.out
theorem uBy : Tryz.prog.underlying 5 = some (.int .u8) := by kernel_rfl
theorem uBs : Tryz.prog.underlying 153 = some (.slice 5) := by kernel_rfl
theorem uSt : Tryz.prog.underlying 9 = some .string := by kernel_rfl
theorem upto_calls {w0 w : World} {bd : Nat} (h : DeckAt w0 w bd) (most : Int) (h0 : 0 <= most) (h1 : most <= 10000000000000) :
  Calls Tryz.prog 43 #[.pointer (some ⟨bd, 0, none⟩), .int .i64 most] w (NextQ 0 (most + 1) w0 bd w) := by
 go_enter Tryz.func43, Tryz.ntmps43
 go_wp2_with fail
 refine (next_calls h 6 (by omega) (by omega)).mono ?_
 rintro e w1 ⟨r, rfl, hr0, hr1, hd, hc⟩
 have HC := hI hc
 have h4 : ∀ (k : Int), 0 < k -> k <= 10000000000001 -> Calls Tryz.prog 37 #[.pointer (some ⟨bd, 0, none⟩), .int .i64 k] w1 (NextQ 0 k w0 bd w1) := fun k hk hk2 => next_calls hd k hk (by omega)
 have H4 := hI h4
 clear hc hd h4
 have hr : r = 0 \/ r = 1 \/ r = 2 \/ r = 3 \/ r = 4 \/ r = 5 := by omega
 clear hr0 hr1
 rcases hr with rfl | rfl | rfl | rfl | rfl | rfl
 all_goals
  go_wp2_with fail
  all_goals
   refine (H4.out _ (by omega) (by omega)).mono ?_
   rintro e w2 ⟨q, rfl, hq0, hq1, hd2, hc2⟩
   have HC2 := hI (HC.out.then hc2)
   have HD2 := hI hd2
   clear hc2 hd2 H4 HC
   go_wp2_with fail
   all_goals
    go_ret
    exact ⟨_, rfl, by omega, by omega, HD2.out, HC2.out⟩
def LeftQ (w : World) (e : Ending) (w' : World) : Prop := ∃ b : Bool, e = .returned (.bool b) /\ Ext w w'
theorem left_calls {w0 w : World} {bd : Nat} (h : DeckAt w0 w bd) : Calls Tryz.prog 67 #[.pointer (some ⟨bd, 0, none⟩)] w (LeftQ w) := by
 obtain ⟨la, ln, lc, k, hb, hk, hln, hL, hx, hbd⟩ := h
 obtain ⟨c0, c1, cf⟩ := blk2 hb
 clear hL hx hb
 go_enter Tryz.func67, Tryz.ntmps67
 go_wp2_with fail
 go_quiet (fail)
 go_wp2_with fail
 go_ret
 exact ⟨_, rfl, (Ext.refl w).drewN _⟩
theorem conv_two (w : World) (x : Nat) (hx : x = w.heap.size) (c d : Int) (t : TypeId) : Sem.run Tryz.prog (convert 153 9 (.slice (some ⟨x, 0, none⟩) 2 2)) (w.alloc (.cells #[.int .u8 c, .int .u8 d] t)) = .ok (.string ⟨#[UInt8.ofNat c.toNat, UInt8.ofNat d.toNat]⟩) (w.alloc (.cells #[.int .u8 c, .int .u8 d] t)) := by
 subst hx
 rw [run_convert_bytes_string _ _ _ 5 _ _ _ uBs uBy uSt]
 have := run_bytesToString (P := Tryz.prog) (w.alloc (.cells #[.int .u8 c, .int .u8 d] t)) ⟨w.heap.size, 0, none⟩ 2 2 [c, d] (by
  refine run_loadCells_list (P := Tryz.prog) _ _ [.int .u8 c, .int .u8 d] (fun j v hj => ?_)
  have : (⟨w.heap.size, 0, none⟩ : Addr).add j = ⟨w.heap.size, j, none⟩ := by unfold Addr.add; split <;> simp_all
  rw [this, World.cell?_alloc_at _ _ _ _ rfl]
  simpa using hj)
 rw [this]
 rfl
def lettersB (p : BA) (k : Nat) : BA := p ++ ⟨#[97 + UInt8.ofNat (k / 26 % 26), 97 + UInt8.ofNat (k % 26)]⟩
theorem lettersB_size (p : BA) (k : Nat) : (lettersB p k).size = p.size + 2 := by unfold lettersB; rw [ByteArray.size_append]; rfl
def LettersQ (p : BA) (k : Nat) (w : World) (e : Ending) (w' : World) : Prop := e = .returned (.string (lettersB p k)) /\ Ext w w'
theorem letters_calls (p : BA) (k : Nat) (hk : k <= 1000) (hp : p.size <= 1000) (w : World) : Calls Tryz.prog 66 #[.string p, .int .i64 k] w (LettersQ p k w) := by
 have kc := conv_two
 go_enter Tryz.func66, Tryz.ntmps66
 go_wp2_with fail
 go_ret
 exact ⟨rfl, (Ext.refl w).alloc _⟩
structure ClV where
 kind : Int
 name : BA
 x : ExV
 au : OA
 nu : Nat
 cu : Nat
 amount : Int
def ClV.cells (c : ClV) : List Value := [.int .i64 c.kind, .string c.name, .int .i64 c.x.op, .string c.x.name, .slice c.x.aw c.x.nw c.x.cw, .int .i64 c.x.lo, .int .i64 c.x.hi, .slice c.x.aa c.x.na c.x.ca, .slice c.au c.nu c.cu, .int .i64 c.amount]
theorem ClV.len (c : ClV) : c.cells.length = 10 := rfl
structure Cl where
 kind : Int
 name : BA
 cond : Ex
def IsCls (w : World) (l : List Cl) (a : OA) (n c : Nat) : Prop :=
 ∃ vs : List ClV, IsRows w 10 ClV.cells vs a n c /\ l.length = vs.length /\ ∀ i (h1 : i < l.length) (h2 : i < vs.length), vs[i].kind = l[i].kind /\ vs[i].name = l[i].name /\ IsEx w l[i].cond vs[i].x.val
theorem IsCls.mono {w w' : World} {l : List Cl} {a : OA} {n c : Nat} (h : IsCls w l a n c) (hs : Sub w w') : IsCls w' l a n c := by
 obtain ⟨vs, h1, h2, h3⟩ := h
 exact ⟨vs, h1.mono hs, h2, fun i hi hv => ⟨(h3 i hi hv).1, (h3 i hi hv).2.1, (h3 i hi hv).2.2.mono hs⟩⟩
theorem IsCls.ext {w w' : World} {l : List Cl} {a : OA} {n c : Nat} (h : IsCls w l a n c) (he : Ext w w') : IsCls w' l a n c := h.mono he.sub
theorem IsCls.len {w : World} {l : List Cl} {a : OA} {n c : Nat} (h : IsCls w l a n c) : n = l.length := by
 obtain ⟨vs, h1, h2, _⟩ := h
 rw [h2]; exact h1.1
theorem IsCls.at {w : World} {l : List Cl} {a : OA} {n c : Nat} (h : IsCls w l a n c) {k : Nat} (hk : k < l.length) : ∃ (b off : Nat) (v : ClV), a = some ⟨b, off, none⟩ /\ v.kind = l[k].kind /\ v.name = l[k].name /\ IsEx w l[k].cond v.x.val /\ ∀ j (hj : j < v.cells.length), w.cell? ⟨b, off + k * 10 + j, none⟩ = some v.cells[j] := by
 obtain ⟨vs, h1, h2, h3⟩ := h
 have hk' : k < vs.length := by omega
 obtain ⟨b, off, e, hc⟩ := h1.2.2.2 k hk'
 obtain ⟨q1, q2, q3⟩ := h3 k hk hk'
 exact ⟨b, off, vs[k], e, q1, q2, q3, hc⟩
theorem IsCls.at10 {w : World} {l : List Cl} {a : OA} {n c : Nat} (h : IsCls w l a n c) {k : Nat} (hk : k < l.length) : ∃ (b off : Nat) (v : ClV), a = some ⟨b, off, none⟩ /\ v.kind = l[k].kind /\ v.name = l[k].name /\ IsEx w l[k].cond v.x.val /\
  w.cell? ⟨b, off + k * 10, none⟩ = some (.int .i64 v.kind) /\ w.cell? ⟨b, off + k * 10 + 1, none⟩ = some (.string v.name) /\ w.cell? ⟨b, off + k * 10 + 2, none⟩ = some (.int .i64 v.x.op) /\ w.cell? ⟨b, off + k * 10 + 3, none⟩ = some (.string v.x.name) /\
  w.cell? ⟨b, off + k * 10 + 4, none⟩ = some (.slice v.x.aw v.x.nw v.x.cw) /\ w.cell? ⟨b, off + k * 10 + 5, none⟩ = some (.int .i64 v.x.lo) /\ w.cell? ⟨b, off + k * 10 + 6, none⟩ = some (.int .i64 v.x.hi) /\ w.cell? ⟨b, off + k * 10 + 7, none⟩ = some (.slice v.x.aa v.x.na v.x.ca) /\
  w.cell? ⟨b, off + k * 10 + 8, none⟩ = some (.slice v.au v.nu v.cu) /\ w.cell? ⟨b, off + k * 10 + 9, none⟩ = some (.int .i64 v.amount) := by
 obtain ⟨b, off, v, e, q1, q2, q3, hc⟩ := h.at hk
 exact ⟨b, off, v, e, q1, q2, q3, hc 0 (by simp [ClV.len]), hc 1 (by simp [ClV.len]), hc 2 (by simp [ClV.len]), hc 3 (by simp [ClV.len]), hc 4 (by simp [ClV.len]), hc 5 (by simp [ClV.len]), hc 6 (by simp [ClV.len]), hc 7 (by simp [ClV.len]), hc 8 (by simp [ClV.len]), hc 9 (by simp [ClV.len])⟩
inductive Wb where
 | mk (name : BA) (cond : Ex) (unl : List Wb)
def Wb.name : Wb -> BA | .mk n _ _ => n
def Wb.cond : Wb -> Ex | .mk _ c _ => c
def Wb.unl : Wb -> List Wb | .mk _ _ u => u
structure Cla where
 kind : Int
 name : BA
 cond : Ex
 unl : List Wb
 amount : Int
def Cla.cl (c : Cla) : Cl := ⟨c.kind, c.name, c.cond⟩
structure WbV where
 name : BA
 x : ExV
 au : OA
 nu : Nat
 cu : Nat
def WbV.cells (v : WbV) : List Value := [.string v.name, .int .i64 v.x.op, .string v.x.name, .slice v.x.aw v.x.nw v.x.cw, .int .i64 v.x.lo, .int .i64 v.x.hi, .slice v.x.aa v.x.na v.x.ca, .slice v.au v.nu v.cu]
theorem WbV.len (c : WbV) : c.cells.length = 8 := rfl
def RowAt (w : World) (b off : Nat) (cs : List Value) : Prop := ∀ j (h : j < cs.length), w.cell? ⟨b, off + j, none⟩ = some cs[j]
theorem RowAt.mono {w w' : World} {b off : Nat} {cs : List Value} (h : RowAt w b off cs) (hs : Sub w w') : RowAt w' b off cs := fun j hj => hs _ _ (h j hj)
mutual
def WbD (w : World) : Wb -> OA -> Nat -> Nat -> Prop
 | .mk _ _ unl, au, nu, cu => nu = unl.length /\ nu <= cu /\ OkAddr au cu /\ WbsD w unl au
def WbsD (w : World) : List Wb -> OA -> Prop
 | [], _ => True
 | .mk name cond unl :: r, a => ∃ b off, a = some ⟨b, off, none⟩ /\ (∃ v : WbV, v.name = name /\ RowAt w b off v.cells /\ IsEx w cond v.x.val /\ v.nu = unl.length /\ v.nu <= v.cu /\ OkAddr v.au v.cu /\ WbsD w unl v.au) /\ WbsD w r (some ⟨b, off + 8, none⟩)
end
mutual
theorem WbD.mono {w w' : World} (he : Sub w w') : (e : Wb) -> (au : OA) -> (nu cu : Nat) -> WbD w e au nu cu -> WbD w' e au nu cu
 | .mk name cond unl, au, nu, cu, h => by
  unfold WbD at h ⊢
  exact ⟨h.1, h.2.1, h.2.2.1, WbsD.mono he unl au h.2.2.2⟩
theorem WbsD.mono {w w' : World} (he : Sub w w') : (l : List Wb) -> (a : OA) -> WbsD w l a -> WbsD w' l a
 | [], _, _ => by unfold WbsD; trivial
 | .mk name cond unl :: r, a, h => by
  unfold WbsD at h ⊢
  obtain ⟨b, off, rfl, ⟨v, h0, h1, h2, h3, h4, h5, h6⟩, hr⟩ := h
  exact ⟨b, off, rfl, ⟨v, h0, h1.mono he, h2.mono he, h3, h4, h5, WbsD.mono he unl v.au h6⟩, WbsD.mono he r _ hr⟩
end
theorem WbsD.at {w : World} : (l : List Wb) -> (a : OA) -> WbsD w l a -> (k : Nat) -> (hk : k < l.length) ->
  ∃ b off, a = some ⟨b, off, none⟩ /\ ∃ v : WbV, v.name = l[k].name /\ RowAt w b (off + k * 8) v.cells /\ IsEx w l[k].cond v.x.val /\ v.nu = l[k].unl.length /\ v.nu <= v.cu /\ OkAddr v.au v.cu /\ WbsD w l[k].unl v.au
 | [], _, _, k, hk => by simp at hk
 | .mk name cond unl :: r, a, h, 0, _ => by
  unfold WbsD at h
  obtain ⟨b, off, rfl, ⟨v, h0, h1, h2, h3, h4, h5, h6⟩, hr⟩ := h
  refine ⟨b, off, rfl, v, ?_⟩
  simp only [Nat.zero_mul, Nat.add_zero]
  exact ⟨h0, h1, h2, h3, h4, h5, h6⟩
 | .mk name cond unl :: r, a, h, k + 1, hk => by
  unfold WbsD at h
  obtain ⟨b, off, rfl, _, hr⟩ := h
  obtain ⟨b', off', e1, rest⟩ := WbsD.at r _ hr k (by simpa using hk)
  simp at e1
  obtain ⟨rfl, rfl⟩ := e1
  have e1 : off + 8 + k * 8 = off + (k + 1) * 8 := by omega
  rw [e1] at rest
  exact ⟨b, off, rfl, by simpa using rest⟩
theorem WbsD.of {w : World} {b : Nat} : (l : List Wb) -> (off : Nat) -> (vs : List WbV) -> l.length = vs.length -> (∀ i (h1 : i < l.length) (h2 : i < vs.length), vs[i].name = l[i].name /\ RowAt w b (off + i * 8) vs[i].cells /\ IsEx w l[i].cond vs[i].x.val /\ vs[i].nu = l[i].unl.length /\ vs[i].nu <= vs[i].cu /\ OkAddr vs[i].au vs[i].cu /\ WbsD w l[i].unl vs[i].au) -> WbsD w l (some ⟨b, off, none⟩)
 | [], _, _, _, _ => by unfold WbsD; trivial
 | .mk name cond unl :: r, off, [], hl, _ => by simp at hl
 | .mk name cond unl :: r, off, v :: vs, hl, h => by
  unfold WbsD
  obtain ⟨h0, h1, h2, h3, h4, h5, h6⟩ := h 0 (by simp) (by simp)
  simp only [List.getElem_cons_zero, Nat.zero_mul, Nat.add_zero] at h0 h1 h2 h3 h4 h5 h6
  refine ⟨b, off, rfl, ⟨v, h0, h1, h2, h3, h4, h5, h6⟩, WbsD.of r (off + 8) vs (by simpa using hl) fun i g1 g2 => ?_⟩
  have := h (i + 1) (by simpa using g1) (by simpa using g2)
  have e1 : off + (i + 1) * 8 = off + 8 + i * 8 := by omega
  rw [e1] at this
  simpa using this
def IsCla (w : World) (c : Cla) (v : ClV) : Prop := v.kind = c.kind /\ v.name = c.name /\ IsEx w c.cond v.x.val /\ v.nu = c.unl.length /\ v.nu <= v.cu /\ OkAddr v.au v.cu /\ WbsD w c.unl v.au /\ v.amount = c.amount
theorem IsCla.mono {w w' : World} {c : Cla} {v : ClV} (h : IsCla w c v) (hs : Sub w w') : IsCla w' c v :=
 ⟨h.1, h.2.1, h.2.2.1.mono hs, h.2.2.2.1, h.2.2.2.2.1, h.2.2.2.2.2.1, WbsD.mono hs _ _ h.2.2.2.2.2.2.1, h.2.2.2.2.2.2.2⟩
def IsClas (w : World) (l : List Cla) (a : OA) (n c : Nat) : Prop :=
 ∃ vs : List ClV, IsRows w 10 ClV.cells vs a n c /\ l.length = vs.length /\ ∀ i (h1 : i < l.length) (h2 : i < vs.length), IsCla w l[i] vs[i]
theorem IsClas.mono {w w' : World} {l : List Cla} {a : OA} {n c : Nat} (h : IsClas w l a n c) (hs : Sub w w') : IsClas w' l a n c := by
 obtain ⟨vs, h1, h2, h3⟩ := h
 exact ⟨vs, h1.mono hs, h2, fun i hi hv => (h3 i hi hv).mono hs⟩
theorem IsClas.ext {w w' : World} {l : List Cla} {a : OA} {n c : Nat} (h : IsClas w l a n c) (he : Ext w w') : IsClas w' l a n c := h.mono he.sub
theorem IsClas.len {w : World} {l : List Cla} {a : OA} {n c : Nat} (h : IsClas w l a n c) : n = l.length := by
 obtain ⟨vs, h1, h2, _⟩ := h
 rw [h2]; exact h1.1
theorem IsClas.cls {w : World} {l : List Cla} {a : OA} {n c : Nat} (h : IsClas w l a n c) : IsCls w (l.map Cla.cl) a n c := by
 obtain ⟨vs, h1, h2, h3⟩ := h
 refine ⟨vs, h1, by simpa using h2, fun i hi hv => ?_⟩
 have hi' : i < l.length := by simpa using hi
 have := h3 i hi' hv
 simp only [List.getElem_map, Cla.cl]
 exact ⟨this.1, this.2.1, this.2.2.1⟩
theorem IsClas.take {w : World} {l : List Cla} {a : OA} {n c : Nat} (h : IsClas w l a n c) {k : Nat} (hk : k <= n) : IsClas w (l.take k) a k c := by
 have hn := h.len
 obtain ⟨vs, ⟨g1, g2, g3, g4⟩, h2, h3⟩ := h
 refine ⟨vs.take k, ⟨by simp; omega, by omega, g3, fun i hi => ?_⟩, by simp [h2], fun i hi hv => ?_⟩
 ·have hi' : i < vs.length := by simp at hi; omega
  obtain ⟨b, off, e, hc⟩ := g4 i hi'
  refine ⟨b, off, e, fun j hj => ?_⟩
  simp only [List.getElem_take] at hj ⊢
  exact hc j hj
 simp only [List.getElem_take]
 exact h3 i (by simp at hi; omega) (by simp at hv; omega)
theorem IsClas.at {w : World} {l : List Cla} {a : OA} {n c : Nat} (h : IsClas w l a n c) {k : Nat} (hk : k < l.length) : ∃ (b off : Nat) (v : ClV), a = some ⟨b, off, none⟩ /\ IsCla w l[k] v /\ RowAt w b (off + k * 10) v.cells := by
 obtain ⟨vs, h1, h2, h3⟩ := h
 have hk' : k < vs.length := by omega
 obtain ⟨b, off, e, hc⟩ := h1.2.2.2 k hk'
 exact ⟨b, off, vs[k], e, h3 k hk hk', hc⟩
theorem RowAt.ten {w : World} {b off : Nat} {v : ClV} (h : RowAt w b off v.cells) : w.cell? ⟨b, off, none⟩ = some (.int .i64 v.kind) /\ w.cell? ⟨b, off + 1, none⟩ = some (.string v.name) /\ w.cell? ⟨b, off + 2, none⟩ = some (.int .i64 v.x.op) /\ w.cell? ⟨b, off + 3, none⟩ = some (.string v.x.name) /\
  w.cell? ⟨b, off + 4, none⟩ = some (.slice v.x.aw v.x.nw v.x.cw) /\ w.cell? ⟨b, off + 5, none⟩ = some (.int .i64 v.x.lo) /\ w.cell? ⟨b, off + 6, none⟩ = some (.int .i64 v.x.hi) /\ w.cell? ⟨b, off + 7, none⟩ = some (.slice v.x.aa v.x.na v.x.ca) /\
  w.cell? ⟨b, off + 8, none⟩ = some (.slice v.au v.nu v.cu) /\ w.cell? ⟨b, off + 9, none⟩ = some (.int .i64 v.amount) :=
 ⟨h 0 (by simp [ClV.len]), h 1 (by simp [ClV.len]), h 2 (by simp [ClV.len]), h 3 (by simp [ClV.len]), h 4 (by simp [ClV.len]), h 5 (by simp [ClV.len]), h 6 (by simp [ClV.len]), h 7 (by simp [ClV.len]), h 8 (by simp [ClV.len]), h 9 (by simp [ClV.len])⟩
theorem RowAt.eight {w : World} {b off : Nat} {v : WbV} (h : RowAt w b off v.cells) : w.cell? ⟨b, off, none⟩ = some (.string v.name) /\ w.cell? ⟨b, off + 1, none⟩ = some (.int .i64 v.x.op) /\ w.cell? ⟨b, off + 2, none⟩ = some (.string v.x.name) /\
  w.cell? ⟨b, off + 3, none⟩ = some (.slice v.x.aw v.x.nw v.x.cw) /\ w.cell? ⟨b, off + 4, none⟩ = some (.int .i64 v.x.lo) /\ w.cell? ⟨b, off + 5, none⟩ = some (.int .i64 v.x.hi) /\ w.cell? ⟨b, off + 6, none⟩ = some (.slice v.x.aa v.x.na v.x.ca) /\ w.cell? ⟨b, off + 7, none⟩ = some (.slice v.au v.nu v.cu) :=
 ⟨h 0 (by simp [WbV.len]), h 1 (by simp [WbV.len]), h 2 (by simp [WbV.len]), h 3 (by simp [WbV.len]), h 4 (by simp [WbV.len]), h 5 (by simp [WbV.len]), h 6 (by simp [WbV.len]), h 7 (by simp [WbV.len])⟩
theorem rletter_calls (c : Int) (w : World) : Calls Tryz.prog 175 #[.int .u8 c] w (Gives (.bool (letterB c)) w) := by
 go_enter Tryz.func175, Tryz.ntmps175
 go_wp2_with fail
 all_goals (go_ret; exact gives_bool (by simp [letterB]; omega))
theorem rdigit_calls (c : Int) (w : World) : Calls Tryz.prog 176 #[.int .u8 c] w (Gives (.bool (digitB c)) w) := by
 go_enter Tryz.func176, Tryz.ntmps176
 go_wp2_with fail
 all_goals (go_ret; exact gives_bool (by simp [digitB]; omega))
theorem far_calls (n : Int) (w : World) : Calls Tryz.prog 154 #[.int .i64 n] w (Gives (.bool (!numberB n)) w) := by
 go_enter Tryz.func154, Tryz.ntmps154
 go_wp2_with fail
 all_goals (go_ret; exact gives_bool (by rw [Bool.eq_iff_iff]; simp [numberB]; omega))
theorem rreserved_calls (s : BA) (w : World) : Calls Tryz.prog 151 #[.string s] w (Gives (.bool (reservedB s)) w) := by
 go_enter Tryz.func151, Tryz.ntmps151
 go_wp2_with fail
 all_goals (go_ret; exact gives_bool (by simp_all [reservedB, reservedWords]))
theorem spanF_every (p : Int -> Bool) (s : BA) : ∀ (m k : Nat), s.size - k = m -> k <= s.size -> (spanF p s (s.size - k) k = s.size ↔ ∀ j (h : j < s.size), k <= j -> p (s[j].toNat : Int) = true) := by
 intro m
 induction m with
 | zero =>
  intro k hm hk
  rw [spanF_end (by omega)]
  exact ⟨fun _ j h hj => by omega, fun _ => by omega⟩
 | succ m ih =>
  intro k hm hk
  have hlt : k < s.size := by omega
  cases hp : p (s[k].toNat : Int)
  ·rw [spanF_stop hlt hp]
   exact ⟨fun h => by omega, fun h => by rw [h k hlt (Nat.le_refl _)] at hp; cases hp⟩
  rw [spanF_step hlt hp, ih (k + 1) (by omega) (by omega)]
  refine ⟨fun h j hj hkj => ?_, fun h j hj hkj => h j hj (by omega)⟩
  by_cases e : j = k
  ·subst e; exact hp
  exact h j hj (by omega)
theorem wordB_of {s : BA} (h0 : s.size ≠ 0) (h1 : s.size <= 16) (h2 : letterB (byteAt s 0) = true) (h3 : byteAt s (s.size - 1) ≠ 45) (h : ∀ j (hj : j < s.size), inWordB (s[j].toNat : Int) = true) : wordB s = true := by
 have := (spanF_every inWordB s _ 0 rfl (by omega)).2 (fun j hj _ => h j hj)
 rw [Nat.sub_zero] at this
 simp [wordB, h0, h1, h2, h3, this]
theorem wordB_no {s : BA} {j : Nat} (hj : j < s.size) (h : inWordB (s[j].toNat : Int) = false) : wordB s = false := by
 cases hb : wordB s
 ·rfl
 simp only [wordB, Bool.and_eq_true, beq_iff_eq] at hb
 have := (spanF_every inWordB s _ 0 rfl (by omega)).1 (by rw [Nat.sub_zero]; exact hb.2) j hj (by omega)
 rw [h] at this; cases this
theorem rword_calls (s : BA) (w : World) (hs : s.size <= 1000000000000000) : Calls Tryz.prog 150 #[.string s] w (Gives (.bool (wordB s)) w) := by
 by_cases h0 : s.size = 0
 ·have H := hI (show wordB s = false by simp [wordB, h0])
  have hz : decide ((s.size : Int) < 1) = true := by simp [h0]
  clear h0
  go_enter Tryz.func150, Tryz.ntmps150
  go_wp2_with fail
  go_ret
  exact gives_bool (by rw [H.out])
 have hz : decide ((s.size : Int) < 1) = false := by simp; omega
 by_cases h1 : s.size <= 16
 ·have hb0 := byteAt_lt (show 0 < s.size by omega)
  have hb1 := byteAt_lt (show s.size - 1 < s.size by omega)
  have hz2 : decide ((16 : Int) < s.size) = false := by simp; omega
  cases h2 : letterB (s[0]'(by omega)).toNat
  ·have H := hI (show wordB s = false by simp [wordB, hb0, h2])
   have H2 := hI h2
   clear h2 hb0 hb1
   go_enter Tryz.func150, Tryz.ntmps150
   go_wp2_with fail
   refine (rletter_calls _ _).mono ?_
   rintro e w' ⟨rfl, rfl⟩
   rw [H2.out]
   go_wp2_with fail
   go_ret
   exact gives_bool (by rw [H.out])
  have H2 := hI h2
  have HB0 := hI hb0
  have HB1 := hI hb1
  clear h2 hb0 hb1
  have e1 : ((s.size : Int) - 1).toNat = s.size - 1 := by omega
  cases h3 : ((s[s.size - 1]'(by omega)).toNat : Int) == 45
  ·have HY := hI (show (∀ j (hj : j < s.size), inWordB (s[j].toNat : Int) = true) -> wordB s = true from fun h => wordB_of h0 h1 (by rw [HB0.out]; exact H2.out) (by rw [HB1.out]; simpa using h3) h)
   go_enter Tryz.func150, Tryz.ntmps150
   go_wp2_with fail
   refine (rletter_calls _ _).mono ?_
   rintro e w' ⟨rfl, rfl⟩
   rw [H2.out]
   go_wp2_with fail
   go_loop [3] (fun i => ∃ k : Nat, i = .int .i64 k /\ k <= s.size /\ ∀ j (hj : j < s.size), j < k -> inWordB (s[j].toNat : Int) = true) (fun i => s.size - (intOf i).toNat)
   case atStart => exact ⟨0, rfl, by omega, fun j _ h => by omega⟩
   case round =>
    obtain ⟨k, rfl, hk, hall⟩ := hrel
    have HA := hI hall
    clear hall
    by_cases hlt : k < s.size
    ·have HN := hI (fun h => wordB_no (s := s) hlt h)
     cases h4 : letterB (s[k].toNat : Int)
     ·cases h5 : digitB (s[k].toNat : Int)
      ·cases h6 : ((s[k].toNat : Int) == 45)
       ·have H := hI (HN.out (by simp [inWordB, h4, h5, h6]))
        have h6' : ((s[k].toNat : Int) != 45) = true := by simpa using h6
        have H4 := hI h4
        have H5 := hI h5
        clear h4 h5
        go_wp2_with fail
        refine (rletter_calls _ _).mono ?_
        rintro e w' ⟨rfl, rfl⟩
        rw [H4.out]
        go_wp2_with fail
        refine (rdigit_calls _ _).mono ?_
        rintro e w' ⟨rfl, rfl⟩
        rw [H5.out]
        go_wp2_with fail
        go_ret
        exact gives_bool (by rw [H.out])
       have H := hI (show inWordB (s[k].toNat : Int) = true by simp [inWordB, h4, h5, h6])
       have h6' : ((s[k].toNat : Int) != 45) = false := by simpa using h6
       have H4 := hI h4
       have H5 := hI h5
       clear h4 h5
       go_wp2_with fail
       refine (rletter_calls _ _).mono ?_
       rintro e w' ⟨rfl, rfl⟩
       rw [H4.out]
       go_wp2_with fail
       refine (rdigit_calls _ _).mono ?_
       rintro e w' ⟨rfl, rfl⟩
       rw [H5.out]
       go_wp2_with fail
       go_round
       case rel => exact ⟨k + 1, by go_num, by omega, fun j hj hjk => by
        by_cases e : j = k
        ·subst e; exact H.out
        exact HA.out j hj (by omega)⟩
       case measure => simp [intOf]; omega
      have H := hI (show inWordB (s[k].toNat : Int) = true by simp [inWordB, h4, h5])
      have H4 := hI h4
      have H5 := hI h5
      clear h4 h5
      go_wp2_with fail
      refine (rletter_calls _ _).mono ?_
      rintro e w' ⟨rfl, rfl⟩
      rw [H4.out]
      go_wp2_with fail
      refine (rdigit_calls _ _).mono ?_
      rintro e w' ⟨rfl, rfl⟩
      rw [H5.out]
      go_wp2_with fail
      go_round
      case rel => exact ⟨k + 1, by go_num, by omega, fun j hj hjk => by
       by_cases e : j = k
       ·subst e; exact H.out
       exact HA.out j hj (by omega)⟩
      case measure => simp [intOf]; omega
     have H := hI (show inWordB (s[k].toNat : Int) = true by simp [inWordB, h4])
     have H4 := hI h4
     clear h4
     go_wp2_with fail
     refine (rletter_calls _ _).mono ?_
     rintro e w' ⟨rfl, rfl⟩
     rw [H4.out]
     go_wp2_with fail
     go_round
     case rel => exact ⟨k + 1, by go_num, by omega, fun j hj hjk => by
      by_cases e : j = k
      ·subst e; exact H.out
      exact HA.out j hj (by omega)⟩
     case measure => simp [intOf]; omega
    go_wp2_with fail
    go_ret
    exact gives_bool (by rw [HY.out (fun j hj => HA.out j hj (by omega))])
  have H := hI (show wordB s = false by simp [wordB, HB0.out, HB1.out, H2.out, h1, h0]; intro h; simp at h3; omega)
  go_enter Tryz.func150, Tryz.ntmps150
  go_wp2_with fail
  refine (rletter_calls _ _).mono ?_
  rintro e w' ⟨rfl, rfl⟩
  rw [H2.out]
  go_wp2_with fail
  go_ret
  exact gives_bool (by rw [H.out])
 have H := hI (show wordB s = false by simp [wordB]; omega)
 have hz2 : decide ((16 : Int) < s.size) = true := by simp; omega
 go_enter Tryz.func150, Tryz.ntmps150
 go_wp2_with fail
 go_ret
 exact gives_bool (by rw [H.out])
theorem rname_calls (s : BA) (w : World) (hs : s.size <= 1000000000000000) : Calls Tryz.prog 118 #[.string s] w (Gives (.bool (nameB s)) w) := by
 go_enter Tryz.func118, Tryz.ntmps118
 go_wp2_with (first
  | (go_at_call 150; refine (rword_calls _ _ hs).mono ?_; rintro e w' ⟨rfl, rfl⟩)
  | (go_at_call 151; refine (rreserved_calls _ _).mono ?_; rintro e w' ⟨rfl, rfl⟩))
 all_goals (go_ret; exact gives_bool (by simp_all [nameB]))
theorem names_calls (l : ZB) (a : OA) (n c : Nat) (w : World) (hl : IsStrs w l a n c) (hn : n <= 1000000000000000) (hsz : ∀ x ∈ l, x.size <= 1000000000000000) :
  Calls Tryz.prog 152 #[.slice a n c] w (Gives (.bool (l.all nameB)) w) := by
 have HL := hI hl
 have HZ := hI hsz
 have hnl := hI hl.1
 clear hl hsz
 go_enter Tryz.func152, Tryz.ntmps152
 go_wp2_with fail
 go_loop [3] (fun t => ∃ k : Nat, t = .int .i64 k /\ k <= n /\ ∀ j (hj : j < l.length), j < k -> nameB l[j] = true) (fun t => n - (intOf t).toNat)
 case atStart => exact ⟨0, rfl, by omega, fun j _ h => by omega⟩
 case round =>
  obtain ⟨k, rfl, hk, hlo⟩ := hrel
  have HO := hI hlo
  clear hlo
  by_cases hlt : k < n
  ·have hlt' : k < l.length := by have := hnl.out; omega
   have hsk := HZ.out _ (List.getElem_mem hlt')
   obtain ⟨b, off, rfl, hcell⟩ := HL.out.2.2.2 k hlt'
   cases h3 : nameB l[k]
   ·have H := hI (show l.all nameB = false by
     rw [List.all_eq_false]; exact ⟨l[k], List.getElem_mem hlt', by simp [h3]⟩)
    have H3 := hI h3
    clear h3
    go_wp2_with fail
    refine (rname_calls _ _ hsk).mono ?_
    rintro e w' ⟨rfl, rfl⟩
    rw [H3.out]
    go_wp2_with fail
    go_ret
    exact gives_bool (by rw [H.out])
   have H3 := hI h3
   clear h3
   go_wp2_with fail
   refine (rname_calls _ _ hsk).mono ?_
   rintro e w' ⟨rfl, rfl⟩
   rw [H3.out]
   go_wp2_with fail
   go_round
   case rel => exact ⟨k + 1, by go_num, by omega, fun j hj hjk => by
    by_cases e : j = k
    ·subst e; exact H3.out
    exact HO.out j hj (by omega)⟩
   case measure => simp [intOf]; omega
  go_wp2_with fail
  go_ret
  exact gives_bool (by
   symm
   rw [List.all_eq_true]
   intro x hx
   obtain ⟨j, hj, rfl⟩ := List.getElem_of_mem hx
   exact HO.out j hj (by have := hnl.out; omega))
theorem nodup_of {l : ZB} {n : Nat} (hn : n = l.length) (h : ∀ i j (hi : i < l.length) (hj : j < l.length), i < n -> j < i -> l[i] ≠ l[j]) : l.Nodup := by
 rw [List.Nodup, List.pairwise_iff_getElem]
 intro i j hi hj hij e
 exact h j i hj hi (by omega) hij e.symm
def GivesD (v : Value) (w : World) (e : Ending) (w' : World) : Prop := e = .returned v /\ ∃ n, w' = w.drewN n
theorem drewN_drewN (w : World) (a b : Nat) : (w.drewN a).drewN b = w.drewN (a + b) := by simp [World.drewN, Nat.add_assoc]
theorem givesD_bool {a b : Bool} {w w' : World} (h : a = b) (hx : ∃ n, w' = w.drewN n) : GivesD (.bool b) w (.returned (.bool a)) w' := by subst h; exact ⟨rfl, hx⟩
theorem distinct_calls (l : ZB) (a : OA) (n c : Nat) (w : World) (hl : IsStrs w l a n c) (hn : n <= 1000000000000000) :
  Calls Tryz.prog 153 #[.slice a n c] w (GivesD (.bool (decide l.Nodup)) w) := by
 have HL := hI hl
 have hnl := hI hl.1
 clear hl
 go_enter Tryz.func153, Tryz.ntmps153
 go_wp2_with fail
 go_loopw [3, 4] (fun t _ wr => ∃ k : Nat, t = .int .i64 k /\ k <= n /\ (∀ i j (hi : i < l.length) (hj : j < l.length), i < k -> j < i -> l[i] ≠ l[j]) /\ ∃ q, wr = w.drewN q) (fun t _ _ => n - (intOf t).toNat)
 case atStart => exact ⟨0, rfl, by omega, fun i j _ _ h => by omega, 0, rfl⟩
 case round =>
  obtain ⟨k, rfl, hk, hlo, q, rfl⟩ := hrel
  have HO := hI hlo
  clear hlo
  by_cases hlt : k < n
  ·have hlt' : k < l.length := by have := hnl.out; omega
   go_wp2_with fail
   go_loopw [4] (fun t wr2 => ∃ m : Nat, t = .int .i64 m /\ m <= k /\ (∀ j (hj : j < l.length), j < m -> l[k] ≠ l[j]) /\ ∃ q, wr2 = w.drewN q) (fun t _ => k - (intOf t).toNat)
   case atStart => exact ⟨0, rfl, by omega, fun j _ h => by omega, q, rfl⟩
   case round =>
    obtain ⟨m, rfl, hm, hne, q2, rfl⟩ := hrel
    have HE := hI hne
    clear hne
    by_cases hmk : m < k
    ·have hmk' : m < l.length := by omega
     obtain ⟨b, off, rfl, hc1⟩ := HL.out.2.2.2 k hlt'
     obtain ⟨b', off', e, hc2⟩ := HL.out.2.2.2 m hmk'
     simp only [Option.some.injEq, Addr.mk.injEq, and_true] at e
     obtain ⟨rfl, rfl⟩ := e
     have ti0 : (0 : Int) <= (k : Int) := by omega
     have ti1 : (k : Int) < (n : Int) := by omega
     have tj0 : (0 : Int) <= (m : Int) := by omega
     have tj1 : (m : Int) < (n : Int) := by omega
     cases he : (l[k].toList == l[m].toList)
     ·have HQ := hI he
      go_wp2_with fail
      go_quiet (fail)
      go_wp2_with fail
      go_roundw
      case rel =>
       refine ⟨m + 1, by go_num, by omega, fun j hj hjm => ?_, _, rfl⟩
       by_cases e : j = m
       ·subst e; intro h; have := HQ.out; rw [h] at this; simp at this
       exact HE.out j hj (by omega)
      case measure => simp [intOf]; omega
     have H := hI (show decide l.Nodup = false by
      rw [decide_eq_false_iff_not]
      intro hnd
      have h1 := toList_inj (beq_iff_eq.1 he)
      rw [List.Nodup, List.pairwise_iff_getElem] at hnd
      exact hnd m k hmk' hlt' hmk h1.symm)
     go_wp2_with fail
     go_quiet (fail)
     go_wp2_with fail
     go_ret
     exact givesD_bool (by rw [H.out]) ⟨_, drewN_drewN _ _ _⟩
    go_wp2_with fail
    go_roundw
    case rel =>
     refine ⟨k + 1, by go_num, by omega, fun i j hi hj hik hji => ?_, q2, rfl⟩
     by_cases e : i = k
     ·subst e; exact HE.out j hj (by omega)
     exact HO.out i j hi hj (by omega) hji
    case measure => simp [intOf]; omega
  go_wp2_with fail
  go_ret
  exact givesD_bool (by
   symm
   rw [decide_eq_true_eq]
   exact nodup_of hnl.out (fun i j hi hj hin hji => HO.out i j hi hj (by omega) hji)) ⟨q, rfl⟩
mutual
def Ex.slim : Ex -> Prop
 | .mk _ _ _ _ _ args => args.length <= 1000000000000000 /\ slimAll args
def slimAll : List Ex -> Prop
 | [] => True
 | e :: r => e.slim /\ slimAll r
end
theorem slimAll_iff : (l : List Ex) -> (slimAll l ↔ ∀ x ∈ l, x.slim)
 | [] => by simp [slimAll]
 | e :: r => by rw [slimAll, slimAll_iff r]; simp
theorem slim_parts {e : Ex} (h : e.slim) : e.args.length <= 1000000000000000 /\ ∀ x ∈ e.args, x.slim := by
 cases e; unfold Ex.slim at h; exact ⟨h.1, (slimAll_iff _).1 h.2⟩
theorem slim_mk {op lo hi : Int} {name : BA} {words : ZB} {args : List Ex} (h1 : args.length <= 1000000000000000) (h2 : ∀ x ∈ args, x.slim) : (Ex.mk op name words lo hi args).slim := by
 unfold Ex.slim; exact ⟨h1, (slimAll_iff _).2 h2⟩
mutual
theorem slim_of_size : (e : Ex) -> e.size <= 1000000000000000 -> e.slim
 | .mk op name words lo hi args, h => by
  rw [Ex.size] at h
  have := length_le_sizes args
  unfold Ex.slim
  exact ⟨by omega, slimAll_of_size args (by omega)⟩
theorem slimAll_of_size : (l : List Ex) -> sizes l <= 1000000000000000 -> slimAll l
 | [], _ => by unfold slimAll; trivial
 | e :: r, h => by
  rw [sizes] at h
  unfold slimAll
  exact ⟨slim_of_size e (by omega), slimAll_of_size r (by omega)⟩
end
theorem size_pos (e : Ex) : 1 <= e.size := by rw [e.size_eq]; omega
def refSize (e : Ex) : Nat := min e.size 301
def refSizes : List Ex -> Nat
 | [] => 0
 | e :: r => refSize e + refSizes r
theorem refSizes_le (l : List Ex) : refSizes l <= sizes l /\ l.length <= refSizes l /\ min (1 + refSizes l) 301 = min (1 + sizes l) 301 := by
 induction l with
 | nil => simp [refSizes, sizes]
 | cons e r ih => have := size_pos e; simp only [refSizes, sizes, refSize, List.length_cons]; omega
theorem refSizes_take_succ (l : List Ex) (k : Nat) (hk : k < l.length) : refSizes (l.take (k + 1)) = refSizes (l.take k) + refSize l[k] := by
 induction l generalizing k with
 | nil => simp at hk
 | cons e r ih =>
  cases k with
  | zero => simp [refSizes]
  | succ k => have := ih k (by simpa using hk); simp only [List.take_succ_cons, refSizes, this, List.getElem_cons_succ]; omega
theorem refSize_of {e : Ex} {k : Nat} (hs : k = e.args.length \/ 300 < 1 + refSizes (e.args.take k)) : min (1 + refSizes (e.args.take k)) 301 = refSize e := by
 have h1 := e.size_eq
 have h2 := refSizes_le (e.args.take k)
 have h3 := sizes_take_le e.args k
 have h4 := refSizes_le e.args
 unfold refSize
 rcases hs with hs | hs
 ·rw [hs, List.take_length]; omega
 omega
theorem rsize_calls (m : Nat) : ∀ (e : Ex) (v : Value) (w : World), e.size <= m -> IsEx w e v -> Calls Tryz.prog 156 #[v] w (GivesE (.int .i64 (refSize e)) w) := by
 induction m with
 | zero => intro e v w h; have := size_pos e; omega
 | succ m ih =>
  intro e v w hm he
  obtain ⟨aw, nw, cw, aa, na, ca, rfl, hw, hna, hca, ha, hx⟩ := he.parts
  have HX := hI hx
  have HN := hI hna
  have hS : e.size = 1 + sizes e.args := e.size_eq
  have hb2 : sizes e.args <= m := by omega
  have H : Hid (∀ (e : Ex) (v : Value) (w : World), e.size <= m -> IsEx w e v -> Calls Tryz.prog 156 #[v] w (GivesE (.int .i64 (refSize e)) w)) := ih
  clear ih hx hna hw hca ha he hS hm
  unfold exV
  go_enter Tryz.func156, Tryz.ntmps156
  go_wp2_with fail
  go_loopw [3, 4] (fun s i wr => ∃ k : Nat, k <= na /\ i = .int .i64 k /\ s = .int .i64 (1 + (refSizes (e.args.take k) : Int)) /\ refSizes (e.args.take k) <= 601 /\ wr.heap[w.heap.size]? = some (.cells #[.int .i64 e.op, .string e.name, .slice aw nw cw, .int .i64 e.lo, .int .i64 e.hi, .slice aa na ca] 45 (0, 0)) /\ Ext w wr) (fun _ i _ => na - (intOf i).toNat)
  case atStart => exact ⟨0, by omega, rfl, by simp [refSizes], by simp [refSizes], alloc_new w _, (Ext.refl w).alloc _⟩
  case round =>
   obtain ⟨k, hk, rfl, rfl, hb6, hbx, hb⟩ := hrel
   have HBX := hI hbx
   have HB := hI hb
   have hlt0 := blk_lt hbx
   obtain ⟨b0, b1, b2, b3, b4, b5, bf⟩ := blk6 hbx
   have hkl : k <= refSizes (e.args.take k) := by have := (refSizes_le (e.args.take k)).2.1; have hl := HN.out; rw [List.length_take] at this; omega
   clear hbx hb
   by_cases hlt : k < na
   ·have hlt' : k < e.args.length := by have := HN.out; omega
    by_cases hc : refSizes (e.args.take k) <= 299
    ·have t1 : decide ((k : Int) < (na : Int)) = true := by simp; omega
     have t2 : decide (1 + (refSizes (e.args.take k) : Int) <= 300) = true := by simp; omega
     obtain ⟨b, off, rfl, aw1, nw1, cw1, aa1, na1, ca1, h0, h1, h2, h3, h4, h5, h6⟩ := ExsD.at e.args _ (ExsD.ext HB.out e.args _ HX.out) k hlt'
     have H6 := hI h6
     have hs1 := hI (refSizes_take_succ e.args k hlt')
     have hsz := sizes_take_succ e.args k hlt'
     have hsl := sizes_take_le e.args (k + 1)
     have hk1 : e.args[k].size <= m := by omega
     have hr : refSize e.args[k] <= 301 := by unfold refSize; omega
     clear h6 hsz hsl
     go_wp2_with fail
     refine (H.out e.args[k] _ _ hk1 H6.out).mono ?_
     rintro r w1 ⟨rfl, hb1⟩
     have HE1 := hI hb1
     clear b0 b1 b2 b3 b4 b5 bf hb1
     go_wp2_with fail
     go_roundw
     case rel => exact ⟨k + 1, by omega, by go_num, by rw [hs1.out]; go_num, by rw [hs1.out]; omega, HE1.out.blk HBX.out, HB.out.trans HE1.out⟩
     case measure => simp [intOf]; omega
    have t1 : decide ((k : Int) < (na : Int)) = true := by simp; omega
    have t2 : decide (1 + (refSizes (e.args.take k) : Int) <= 300) = false := by simp; omega
    have H1 := hI (refSize_of (e := e) (k := k) (Or.inr (by omega)))
    go_wp2_with fail
    all_goals (go_ret; exact givesE_int (by rw [<- H1.out]; omega) HB.out)
   have t1 : decide ((k : Int) < (na : Int)) = false := by simp; omega
   have H1 := hI (refSize_of (e := e) (k := k) (Or.inl (by have := HN.out; omega)))
   go_wp2_with fail
   all_goals (go_ret; exact givesE_int (by rw [<- H1.out]; omega) HB.out)
theorem deeper_slim (m : Nat) : ∀ (e : Ex) (v : Value) (w : World) (n : Nat), e.size <= m -> e.slim -> n <= 1000 -> IsEx w e v -> Calls Tryz.prog 155 #[v, .int .i64 n] w (GivesE (.bool (decide (n < e.depth))) w) := by
 induction m with
 | zero => intro e v w n h; have := size_pos e; omega
 | succ m ih =>
  intro e v w n hm hsl hn he
  obtain ⟨hsl1, hsl2⟩ := slim_parts hsl
  obtain ⟨aw, nw, cw, aa, na, ca, rfl, hw, hna, hca, ha, hx⟩ := he.parts
  have HX := hI hx
  have HN := hI hna
  have HD := hI e.depth_eq
  have hS : e.size = 1 + sizes e.args := e.size_eq
  have hb2 : sizes e.args <= m := by omega
  have hna2 : na <= 1000000000000000 := by omega
  have HSL := hI hsl2
  have H : Hid (∀ (e : Ex) (v : Value) (w : World) (n : Nat), e.size <= m -> e.slim -> n <= 1000 -> IsEx w e v -> Calls Tryz.prog 155 #[v, .int .i64 n] w (GivesE (.bool (decide (n < e.depth))) w)) := fun e v w n h1 h0 h2 h3 => ih e v w n h1 h0 h2 h3
  clear hsl hsl1 hsl2 ih hx hna hw hca ha he hS hm
  unfold exV
  by_cases hn0 : n = 0
  ·have t1 : ((n : Int) == 0) = true := by simp [hn0]
   have H1 := hI (show decide (n < e.depth) = true by rw [decide_eq_true_eq, HD.out]; omega)
   generalize decide (n < e.depth) = B at *
   go_enter Tryz.func155, Tryz.ntmps155
   go_wp2_with fail
   go_ret
   exact givesE_bool (by rw [H1.out]) ((Ext.refl w).alloc _)
  have hn1 : 1 <= n := by omega
  have t1 : ((n : Int) == 0) = false := by simp; omega
  obtain ⟨B, hB⟩ : ∃ B, B = decide (n < e.depth) := ⟨_, rfl⟩
  rw [<- hB]
  have HBQ := hI hB
  clear hB
  go_enter Tryz.func155, Tryz.ntmps155
  go_wp2_with fail
  go_loopw [5] (fun i wr => ∃ k : Nat, k <= na /\ i = .int .i64 k /\ (∀ j (hj : j < e.args.length), j < k -> ¬ n - 1 < e.args[j].depth) /\ wr.heap[w.heap.size]? = some (.cells #[.int .i64 e.op, .string e.name, .slice aw nw cw, .int .i64 e.lo, .int .i64 e.hi, .slice aa na ca] 45 (0, 0)) /\ Ext w wr) (fun i _ => na - (intOf i).toNat)
  case atStart => exact ⟨0, by omega, rfl, fun j _ h => by omega, alloc_new w _, (Ext.refl w).alloc _⟩
  case round =>
   obtain ⟨k, hk, rfl, hall, hbx, hb⟩ := hrel
   have HA := hI hall
   have HBX := hI hbx
   have HB := hI hb
   have hlt0 := blk_lt hbx
   obtain ⟨b0, b1, b2, b3, b4, b5, bf⟩ := blk6 hbx
   clear hbx hb hall
   by_cases hlt : k < na
   ·have hlt' : k < e.args.length := by have := HN.out; omega
    obtain ⟨b, off, rfl, aw1, nw1, cw1, aa1, na1, ca1, h0, h1, h2, h3, h4, h5, h6⟩ := ExsD.at e.args _ (ExsD.ext HB.out e.args _ HX.out) k hlt'
    have H6 := hI h6
    have hsz := sizes_take_succ e.args k hlt'
    have hsl := sizes_take_le e.args (k + 1)
    have hk1 : e.args[k].size <= m := by omega
    have HM1 := hI (depths_mem (List.getElem_mem hlt'))
    clear h6 hsz hsl
    have HCA := hI (show (n : Int) - 1 = ((n - 1 : Nat) : Int) by omega)
    go_wp2_with fail
    rw [HCA.out]
    refine (H.out e.args[k] _ _ (n - 1) hk1 (HSL.out _ (List.getElem_mem hlt')) (by omega) H6.out).mono ?_
    rintro r w1 ⟨rfl, hb1⟩
    have HE1 := hI hb1
    clear b0 b1 b2 b3 b4 b5 bf hb1
    by_cases hdp : n - 1 < e.args[k].depth
    ·rw [decide_eq_true hdp]
     have H1 := hI (show B = true by rw [HBQ.out, decide_eq_true_eq, HD.out]; have := HM1.out; omega)
     clear hdp
     go_wp2_with fail
     go_ret
     exact givesE_bool (by rw [H1.out]) (HB.out.trans HE1.out)
    rw [decide_eq_false hdp]
    have HND := hI hdp
    clear hdp
    go_wp2_with fail
    go_roundw
    case rel =>
     refine ⟨k + 1, by omega, by go_num, fun j hj hjk => ?_, HE1.out.blk HBX.out, HB.out.trans HE1.out⟩
     by_cases ej : j = k
     ·subst ej; exact HND.out
     exact HA.out j hj (by omega)
    case measure => simp [intOf]; omega
   have H1 := hI (show B = false by
    rw [HBQ.out, decide_eq_false_iff_not, HD.out]
    have : ∀ l : List Ex, (∀ x ∈ l, ¬ n - 1 < x.depth) -> depths l <= n - 1 := by
     intro l
     induction l with
     | nil => intro _; simp [depths]
     | cons y r ih =>
      intro h
      have h1 := h y (by simp)
      have h2 := ih (fun x hx => h x (List.mem_cons_of_mem _ hx))
      simp only [depths]; omega
    have := this e.args (fun x hx => by
     obtain ⟨j, hj, rfl⟩ := List.getElem_of_mem hx
     exact HA.out j hj (by have := HN.out; omega))
    omega)
   go_wp2_with fail
   go_ret
   exact givesE_bool (by rw [H1.out]) HB.out
end Go.Proofs.YtefjomofjejklaaGreatDoor
