/-
  Texts of the claim, joined: Made2, LawExpr, Plain2, Chk, SVal.
-/
import Derived.Test.YtefjomofjejklaaGreatDoorDt09
import Derived.Test.YtefjomofjejklaaGreatDoorDt08
namespace Go.Proofs.YtefjomofjejklaaGreatDoor
set_option maxRecDepth 100000
set_option maxHeartbeats 32000000
open Go.RowKit
def MadeE (attrs : List Attr) (names : ZB) : Nat -> Ex -> Prop
 | 0, _ => False
 | d + 1, e => AtomOf attrs names e \/ ((e.op = 6 /\ e.args.length = 1 \/ (e.op = 7 \/ e.op = 8) /\ 2 <= e.args.length /\ e.args.length <= 3) /\ e.name = ⟨#[]⟩ /\ e.words = [] /\ e.lo = 0 /\ e.hi = 0 /\ ∀ x ∈ e.args, MadeE attrs names d x)
theorem MadeE.atom {attrs : List Attr} {names : ZB} {d : Nat} {e : Ex} (h : AtomOf attrs names e) (hd : 0 < d) : MadeE attrs names d e := by
 obtain ⟨d, rfl⟩ : ∃ k, d = k + 1 := ⟨d - 1, by omega⟩
 exact Or.inl h
theorem MadeQ.mono {P P' : Ex -> Prop} {w0 : World} {bd : Nat} {M : ZN} {w : World} {e : Ending} {w' : World} (h : MadeQ P w0 bd M w e w') (hp : ∀ x, P x -> P' x) : MadeQ P' w0 bd M w e w' := by
 obtain ⟨x, v, h1, h2, h3⟩ := h
 exact ⟨x, v, h1, hp x h2, h3⟩
def Rd15 (attrs : List Attr) (names : ZB) (d be bd : Nat) (v : Value) (a : OA) (n c : Nat) (an : OA) (nn cn : Nat) (j : Nat) (xs : List ExV) (K : ZN) (wr : World) : Nat -> Value -> World -> Prop
 | 0, u, _ => u = .pointer (some ⟨be, 5, none⟩)
 | 1, u, _ => u = v
 | 2, u, _ => u = .pointer (some ⟨bd, 0, none⟩)
 | 3, u, _ => u = .agg #[.slice a n c]
 | 4, u, _ => u = .slice an nn cn
 | 5, u, _ => u = .int .i64 ((d : Int) + 1)
 | 6, u, _ => u = .int .i64 (d : Int)
 | 7, u, W => ∃ (e : Ex) (x : ExV), u = x.val /\ MadeE attrs names d e /\ IsEx (mask W K) e x.val
 | 8, u, W => ∃ (x0 : Nat) (e : Ex) (x : ExV), u = .slice (some ⟨x0, 0, none⟩) 1 1 /\ W.heap[x0]? = some (.cells x.cells.toArray 45 (0, 0)) /\ MadeE attrs names d e /\ IsEx (mask W K) e x.val /\ W.ownsRow (be + 1) 45 6 v j (xs.flatMap ExV.cells)
 | 9, u, W => ∃ (g cap : Nat) (e : Ex) (x : ExV), u = .slice (some ⟨g, 0, none⟩) (j + 1) cap /\ W.ownsRow (be + 1) 45 6 (.slice (some ⟨g, 0, none⟩) (j + 1) cap) (j + 1) ((xs ++ [x]).flatMap ExV.cells) /\ MadeE attrs names d e /\ IsEx (mask W (K ++ [g])) e x.val /\ (v.ownBlock = some g \/ wr.heap.size <= g)
 | 10, u, _ => u = .pointer (some ⟨be, 5, none⟩)
 | _, _, _ => True
def E15 (k : Nat) (W W' : World) : Prop := k = 7 \/ k = 8 \/ k = 9 \/ W = W'
def G15 (v : Value) (w0 wr : World) (bd : Nat) (L : ZN) (W : World) : Prop := Chg (bd :: rowOf v) wr W /\ DeckAt w0 W bd /\ (9 ∉ L -> Chg [bd] wr W)
theorem rd15_keeps {ops : Array Oper} {attrs : List Attr} {names : ZB} {d be bd : Nat} {v : Value} {a : OA} {n c : Nat} {an : OA} {nn cn j : Nat} {xs : List ExV} {K : ZN} {wr : World}
  (hops : (!outlasts ops 11 [9, 10] 7 8 && !outlasts ops 11 [9, 10] 7 9 && !outlasts ops 11 [9, 10] 8 7 && !outlasts ops 11 [9, 10] 8 9 && !outlasts ops 11 [9, 10] 9 7 && !outlasts ops 11 [9, 10] 9 8) = true) :
  ∀ i k u W W', i < 11 -> k < 11 -> i ≠ k -> outlasts ops 11 [9, 10] i k = true -> Rd15 attrs names d be bd v a n c an nn cn j xs K wr i u W -> E15 k W W' -> Rd15 attrs names d be bd v a n c an nn cn j xs K wr i u W' := by
 intro i k u W W' hi hk hne ho hR hE
 simp only [Bool.and_eq_true, Bool.not_eq_true'] at hops
 obtain ⟨⟨⟨⟨⟨q1, q2⟩, q3⟩, q4⟩, q5⟩, q6⟩ := hops
 have hi' := ltc11 hi
 have key : ∀ (h : i = 7 \/ i = 8 \/ i = 9), W = W' := by
  intro h
  rcases hE with rfl | rfl | rfl | e
  ·rcases h with rfl | rfl | rfl
   ·exact absurd rfl hne
   ·rw [q3] at ho; cases ho
   rw [q5] at ho; cases ho
  ·rcases h with rfl | rfl | rfl
   ·rw [q1] at ho; cases ho
   ·exact absurd rfl hne
   rw [q6] at ho; cases ho
  ·rcases h with rfl | rfl | rfl
   ·rw [q2] at ho; cases ho
   ·rw [q4] at ho; cases ho
   exact absurd rfl hne
  exact e
 rcases hi' with rfl | rfl | rfl | rfl | rfl | rfl | rfl | rfl | rfl | rfl | rfl
 case inr.inr.inr.inr.inr.inr.inr.inl => rw [<- key (by simp)]; exact hR
 case inr.inr.inr.inr.inr.inr.inr.inr.inl => rw [<- key (by simp)]; exact hR
 case inr.inr.inr.inr.inr.inr.inr.inr.inr.inl => rw [<- key (by simp)]; exact hR
 all_goals exact hR
def ArgsI (attrs : List Attr) (names : ZB) (d : Nat) (op k0 : Int) (be bd : Nat) (K0 : ZN) (w0 wa : World) (k : Value) (wr : World) : Prop := ∃ (l : List Ex) (xs : List ExV) (v : Value), (l.length : Int) <= k0 /\ k = .int .i64 (k0 - l.length) /\ (∀ e ∈ l, MadeE attrs names d e) /\
 wr.heap[be]? = some (.cells #[.int .i64 op, .string ⟨#[]⟩, .slice none 0 0, .int .i64 0, .int .i64 0, v] 45 (0, 0)) /\ wr.ownsRow (be + 1) 45 6 v l.length (xs.flatMap ExV.cells) /\ ExsR (mask wr (K0 ++ rowOf v)) l xs /\ Chg [bd] wa wr /\ DeckAt w0 wr bd
def notV (g : Nat) : ExV := ⟨6, ⟨#[]⟩, none, 0, 0, 0, 0, some ⟨g, 0, none⟩, 1, 1⟩
theorem not_fin {attrs : List Attr} {names : ZB} {d : Nat} {w0 w W : World} {bd B : Nat} {M : ZN} {v : ExV} {x : Ex} (hc : Chg [bd] w W) (hd : DeckAt w0 W bd) (hB : w.heap.size <= B) (hBW : B < W.heap.size) (hbd : bd < w.heap.size) (hm : MadeE attrs names d x) (hx : IsEx (mask W (B :: M)) x v.val) (hM : ∀ y ∈ M, y < W.heap.size) :
  MadeQ (MadeE attrs names (d + 1)) w0 bd M w (.returned (notV W.heap.size).val) ((put6 W B (notV W.heap.size)).alloc (.cells v.cells.toArray 45)) := by
 have h0 : w0.heap.size <= bd := by obtain ⟨_, _, _, _, _, _, _, _, _, h⟩ := hd; exact h
 have hp := put6_chg W B (notV W.heap.size) (N := B :: M) (by simp)
 have hp1 := put6_chg W B (notV W.heap.size) (N := [B]) (by simp)
 have hs := put6_size W B (notV W.heap.size)
 generalize put6 W B (notV W.heap.size) = W6 at *
 refine ⟨.mk 6 ⟨#[]⟩ [] 0 0 [x], notV W.heap.size, rfl, ?_, ?_, ?_, ?_⟩
 ·exact Or.inr ⟨Or.inl ⟨rfl, rfl⟩, rfl, rfl, rfl, rfl, fun y hy => by simp only [Ex.args, List.mem_singleton] at hy; subst hy; exact hm⟩
 ·refine isEx_not (t := 45) (x := v) (alloc_at hs.symm) (fun h => by have := hM _ h; omega) ?_
  exact hx.mono ((hp.alloc _).sub.trans (mask_less _ (fun y hy => List.mem_cons_of_mem _ hy)))
 ·exact hd.chg (hp1.alloc _) (by simp; omega) (by simp; omega)
 exact hc.trans (hp1.alloc _) (by intro y hy; simp at hy; subst hy; exact Or.inr hB)
theorem dexpr_calls (attrs : List Attr) (names : ZB) (hok : ∀ a ∈ attrs, OkAttr a) (hne : attrs ≠ []) (hl : attrs.length <= 1000) (hnl : names.length <= 1000) : ∀ (d : Nat), d <= 100 -> ∀ {w0 w : World} {bd : Nat} (_ : DeckAt w0 w bd) (a : OA) (n c : Nat) (an : OA) (nn cn : Nat) (M : ZN) (_ : IsSchema (mask w [bd]) attrs (.agg #[.slice a n c])) (_ : IsStrs (mask w [bd]) names an nn cn) (_ : ∀ y ∈ M, y < w.heap.size),
  Calls Tryz.prog 40 #[.pointer (some ⟨bd, 0, none⟩), .agg #[.slice a n c], .slice an nn cn, .int .i64 ((d : Int) + 1)] w (MadeQ (MadeE attrs names (d + 1)) w0 bd M w) := by
 intro d
 induction d using Nat.strongRecOn with
 | _ d ih =>
  intro hd100 w0 w bd hd a n c an nn cn M hs hn hM
  have IH := hI ih
  have HS := hI hs
  have HN := hI hn
  have HM := hI hM
  have HOK := hI hok
  have hbd : bd < w.heap.size := by obtain ⟨_, _, _, _, hb, _⟩ := hd; exact blk_lt hb
  have hbd0 : w0.heap.size <= bd := by obtain ⟨_, _, _, _, _, _, _, _, _, h⟩ := hd; exact h
  have HDW := hI (hd.ext (((Ext.refl w).alloc (.cells #[.slice a n c] 24)).alloc (.cells exV0.cells.toArray 45)))
  have HB1 := hI (blk_alloc (o' := .cells exV0.cells.toArray 45) (alloc_new w (.cells #[.slice a n c] 24)))
  have HB2 := hI (alloc_at (w := w.alloc (.cells #[.slice a n c] 24)) (o := .cells exV0.cells.toArray 45) (n := w.heap.size + 1) (by simp))
  have HE2 := hI (fun (W : World) (h : Chg [bd] ((w.alloc (.cells #[.slice a n c] 24)).alloc (.cells exV0.cells.toArray 45)) W) => (((Chg.refl [bd] w).alloc (.cells #[.slice a n c] 24)).alloc (.cells exV0.cells.toArray 45)).then h)
  clear ih hs hn hM hd hok
  go_enter Tryz.func40, Tryz.ntmps40
  go_wp2_with fail
  refine (next_calls HDW.out _ (by omega) (by omega)).mono ?_
  rintro r w1 ⟨r1, rfl, hr0, hr1, hd1, hc1⟩
  have HD1 := hI hd1
  have HC1 := hI (HE2.out _ hc1)
  have HB11 := hI (hc1.blk HB1.out (by simp; omega))
  have HB21 := hI (hc1.blk HB2.out (by simp; omega))
  clear hd1 hc1 HDW HB1 HB2 HE2
  have hz1 := HC1.out.size
  have hzb := blk_lt HB21.out
  have cs0 := blk_cell HB11.out 0
  simp at cs0
  by_cases hleaf : d = 0 \/ r1 < 4
  ·rcases hleaf with hd0 | hr4
   case' inl =>
    have t1 : decide ((d : Int) + 1 < 2) = true := by simp; omega
    go_wp2_with fail
   case' inr =>
    cases t1 : decide ((d : Int) + 1 < 2)
    all_goals
     have t2 : decide (r1 < 4) = true := by simpa using hr4
     go_wp2_with fail
   all_goals
    refine (next_calls HD1.out _ (by omega) (by omega)).mono ?_
    rintro r w2 ⟨r2, rfl, hs0, hs1, hd2, hc2⟩
    have HD2 := hI hd2
    have HC2 := hI (HC1.out.then hc2)
    have HB12 := hI (hc2.blk HB11.out (by simp; omega))
    have HB22 := hI (hc2.blk HB21.out (by simp; omega))
    clear hd2 hc2 cs0
    have cs0 := blk_cell HB12.out 0
    simp at cs0
    have hz2 := blk_lt HB22.out
    have hb2 := HB22.out
    unfold exV0 ExV.cells at hb2
    obtain ⟨b0, b1, b2, b3, b4, b5, bf⟩ := blk6 hb2
    clear hb2
    by_cases h10 : r2 = 10
    ·subst h10
     go_wp2_with fail
     refine bodyPost_ret (v := (ExV.mk 1 ⟨#[]⟩ none 0 0 0 0 none 0 0).val) (by simp [results, Tryz.results40, go_sem, ExV.val, exV, b0, b1, b2, b3, b4, b5]) rfl ?_
     exact made_fin (e := .mk 1 ⟨#[]⟩ [] 0 0 []) (x := ⟨1, ⟨#[]⟩, none, 0, 0, 0, 0, none, 0, 0⟩) HC2.out HD2.out (by omega) hbd (MadeE.atom ⟨rfl, Or.inl ⟨rfl, rfl, rfl, rfl, rfl⟩⟩ (by omega)) (isEx_plain _ 1 0 0 ⟨#[]⟩)
    have e10 : (r2 == 10) = false := by simpa using h10
    by_cases h11 : r2 = 11
    ·subst h11
     go_wp2_with fail
     refine bodyPost_ret (v := (ExV.mk 2 ⟨#[]⟩ none 0 0 0 0 none 0 0).val) (by simp [results, Tryz.results40, go_sem, ExV.val, exV, b0, b1, b2, b3, b4, b5]) rfl ?_
     exact made_fin (e := .mk 2 ⟨#[]⟩ [] 0 0 []) (x := ⟨2, ⟨#[]⟩, none, 0, 0, 0, 0, none, 0, 0⟩) HC2.out HD2.out (by omega) hbd (MadeE.atom ⟨rfl, Or.inr (Or.inl ⟨rfl, rfl, rfl, rfl, rfl⟩)⟩ (by omega)) (isEx_plain _ 2 0 0 ⟨#[]⟩)
    have e11 : (r2 == 11) = false := by simpa using h11
    go_wp2_with fail
    refine (atom_calls HD2.out attrs names a n c an nn cn ((w.heap.size + 1) :: M) (HS.out.mono HC2.out.sub) (HN.out.mono HC2.out.sub) HOK.out hne hl hnl (fun q hq => by
     rcases List.mem_cons.1 hq with rfl | hq
     ·exact hz2
     have := HM.out q hq; have := HC2.out.size; omega)).mono ?_
    rintro r w3 ⟨x, v, rfl, hat, hix, hd3, hc3⟩
    have HAT := hI hat
    have HIX := hI hix
    have HD3 := hI hd3
    have HC3 := hI (HC2.out.then hc3)
    have hb3 := hc3.blk HB22.out (by simp; omega)
    clear hat hix hd3 hc3 b0 b1 b2 b3 b4 b5 bf cs0
    have hz3 := blk_lt hb3
    unfold exV0 ExV.cells at hb3
    obtain ⟨b0, b1, b2, b3, b4, b5, bf⟩ := blk6 hb3
    clear hb3
    unfold ExV.val exV
    go_wp2_with fail
    refine bodyPost_ret (v := v.val) (by simp [results, Tryz.results40, go_sem, ExV.val, exV, b0, b1, b2, b3, b4, b5]) rfl ?_
    exact made_fin (e := x) (x := v) HC3.out HD3.out (by omega) hbd (MadeE.atom HAT.out (by omega)) HIX.out
  obtain ⟨d', rfl⟩ : ∃ d', d = d' + 1 := ⟨d - 1, by omega⟩
  have t1 : decide (((d' + 1 : Nat) : Int) + 1 < 2) = false := by simp; omega
  have t2 : decide (r1 < 4) = false := by simp; omega
  have hr4 : 4 <= r1 := by omega
  clear hleaf
  by_cases h6 : r1 < 6
  ·have t3 : decide (r1 < 6) = true := by simpa using h6
   go_wp2_with fail
   refine (IH.out d' (by omega) (by omega) HD1.out a n c an nn cn ((w.heap.size + 1) :: M) (HS.out.mono HC1.out.sub) (HN.out.mono HC1.out.sub) (fun q hq => by
    rcases List.mem_cons.1 hq with rfl | hq
    ·exact hzb
    have := HM.out q hq; omega)).mono ?_
   rintro r w2 ⟨x, v, rfl, hmx, hix, hd2, hc2⟩
   have HMX := hI hmx
   have HIX := hI hix
   have HD2 := hI hd2
   have HC2 := hI (HC1.out.then hc2)
   have HB22 := hI (hc2.blk HB21.out (by simp; omega))
   have hz2 := blk_lt HB22.out
   have hb2 := HB22.out
   unfold exV0 ExV.cells at hb2
   clear hmx hix hd2 hc2 cs0
   obtain ⟨b0, b1, b2, b3, b4, b5, bf⟩ := blk6 hb2
   clear hb2
   have HFIN := hI (not_fin HC2.out HD2.out (show w.heap.size <= w.heap.size + 1 by omega) hz2 hbd HMX.out HIX.out (fun q hq => by have := HM.out q hq; have := HC2.out.size; omega))
   unfold ExV.val exV
   go_wp2_with fail
   refine bodyPost_ret (v := (notV w2.heap.size).val) (by simp [results, Tryz.results40, go_sem, notV, ExV.val, exV, b0, b1, b2, b3, b4, b5, hz2]) rfl ?_
   exact HFIN.out
  have t3 : decide (r1 < 6) = false := by simpa using h6
  have HNB := hI (alloc_new w1 (.cells #[.int .i64 (r1 + 1), .string ⟨#[]⟩, .slice none 0 0, .int .i64 0, .int .i64 0, .slice none 0 0] 45))
  have HEB := hI (fun (W : World) (h : Chg [bd] (w1.alloc (.cells #[.int .i64 (r1 + 1), .string ⟨#[]⟩, .slice none 0 0, .int .i64 0, .int .i64 0, .slice none 0 0] 45)) W) => ((Chg.refl [bd] w1).alloc (.cells #[.int .i64 (r1 + 1), .string ⟨#[]⟩, .slice none 0 0, .int .i64 0, .int .i64 0, .slice none 0 0] 45)).then h)
  go_wp2_with fail
  refine (range_calls (HD1.out.ext ((Ext.refl w1).alloc _)) _ _ (by omega) (by omega) (by omega)).mono ?_
  rintro r w2 ⟨k0, rfl, hk0, hk1, hd2, hc2⟩
  have HD2 := hI hd2
  have HC2 := hI (HEB.out _ hc2)
  have HX2 := hI (hc2.blk HNB.out (by simp; omega))
  clear hd2 hc2 HNB HEB cs0
  go_wp2_with fail
  go_loopw [11] (ArgsI attrs names (d' + 1) (r1 + 1) k0 w1.heap.size bd ((w.heap.size + 1) :: w1.heap.size :: bd :: M) w0 w1) (fun k _ => (intOf k).toNat)
  case atStart => exact ⟨[], [], .slice none 0 0, by simp; omega, by simp, by simp, HX2.out, World.ownsRow_nil _ _ _ _, ExsR.nil _, HC2.out, HD2.out⟩
  case round =>
   obtain ⟨l, xs, v, hlk, rfl, hml, hbe, hown, hex, hcr, hdr⟩ := hrel
   clear HD2 HC2 HX2
   have HML := hI hml
   have HBX := hI hbe
   have HOW := hI hown
   have HEX := hI hex
   have HCR := hI hcr
   have HDR := hI hdr
   have hrow : ∀ q ∈ rowOf v, w1.heap.size + 1 <= q := fun q hq => (hown.lt q (mem_rowOf.1 hq)).1
   have hrowlt : ∀ q ∈ rowOf v, q < wr.heap.size := fun q hq => (hown.lt q (mem_rowOf.1 hq)).2
   have HROW := hI hrow
   have HROWL := hI hrowlt
   have hbel := blk_lt hbe
   have hzr := hcr.size
   obtain ⟨e0, e1, e2, e3, e4, e5, ef⟩ := blk6 hbe
   have cs0 := blk_cell (hcr.blk HB11.out (by simp; omega)) 0
   simp at cs0
   clear hml hbe hown hex hcr hdr hrow hrowlt
   by_cases hlt : (l.length : Int) < k0
   ·have t4 : decide (0 < k0 - (l.length : Int)) = true := by simp; omega
    have hl3 : l.length <= 3 := by omega
    go_wp2_with fail
    refine wp_region_growL (m := 11) [9, 10] (G15 v w0 wr bd) E15 (Rd15 attrs names (d' + 1) w1.heap.size bd v a n c an nn cn l.length xs (((w.heap.size + 1) :: w1.heap.size :: bd :: M) ++ rowOf v) wr) (by kernel_rfl) (by kernel_rfl) ⟨(Chg.refl _ _).drew, HDR.out.ext ((Ext.refl wr).drew), fun _ => (Chg.refl _ _).drew⟩ (rd15_keeps (by kernel_rfl)) ?_ ?_
    ·intro i o hi ho L vs W hiL hnc hG hd ρ hρ
     have hi' := ltc11 hi
     clear hi
     have o10 : ρ (.tmp 10) = .pointer (some ⟨w1.heap.size, 0, none⟩) := hρ.out 10 rfl
     have i0 := hρ.i 0 53
     have o0 : ρ (.tmp 0) = .pointer (some ⟨bd, 0, none⟩) := hρ.out 0 rfl
     have o5 : ρ (.tmp 5) = .pointer (some ⟨w.heap.size, 0, none⟩) := hρ.out 5 rfl
     have o2 : ρ (.tmp 2) = .slice an nn cn := hρ.out 2 rfl
     have o3 : ρ (.tmp 3) = .int .i64 ((d' : Int) + 1 + 1) := hρ.out 3 rfl
     have i5 := hρ.i 5 58
     have i2 := hρ.i 2 55
     have i3 := hρ.i 3 56
     have i4 := hρ.i 4 57
     have i6 := hρ.i 6 59
     have i7 := hρ.i 7 60
     have i1 := hρ.i 1 54
     have i8 := hρ.i 8 61
     have i10 := hρ.i 10 63
     have i9 := hρ.i 9 62
     have hcs := hρ.const
     have hfn := hρ.func
     clear hρ
     have HGN := hI (show ∀ i, i ≠ 9 -> G15 v w0 wr bd (L ++ [i]) W from fun i hi => ⟨hG.1, hG.2.1, fun h => hG.2.2 (fun h' => h (List.mem_append_left _ h'))⟩)
     have HG := hI hG
     have cE := hG.1.cell e5 (fun h => by
      rcases List.mem_cons.1 h with h | h
      ·have h2 : w1.heap.size = bd := h; omega
      have h2 : w1.heap.size + 1 <= w1.heap.size := HROW.out _ h; omega)
     have cS := hG.1.cell cs0 (fun h => by
      rcases List.mem_cons.1 h with h | h
      ·have h2 : w.heap.size = bd := h; omega
      have h2 : w1.heap.size + 1 <= w.heap.size := HROW.out _ h; omega)
     have hws := hG.1.size
     clear hG e0 e1 e2 e3 e4 e5 ef cs0
     rcases hi' with rfl | rfl | rfl | rfl | rfl | rfl | rfl | rfl | rfl | rfl | rfl
     ·cases ho
      unfold GivesOp
      go_simp
      exact ⟨Or.inr (Or.inr (Or.inr rfl)), HGN.out _ (by simp), rfl⟩
     ·cases ho
      have h0 : vs 0 = _ := hd ⟨0, .data⟩ (by simp) rfl
      rw [h0] at i0
      unfold GivesOp
      go_simp
      exact ⟨Or.inr (Or.inr (Or.inr rfl)), HGN.out _ (by simp), rfl⟩
     ·cases ho
      unfold GivesOp
      go_simp
      exact ⟨Or.inr (Or.inr (Or.inr rfl)), HGN.out _ (by simp), rfl⟩
     ·cases ho
      unfold GivesOp
      go_simp
      exact ⟨Or.inr (Or.inr (Or.inr rfl)), HGN.out _ (by simp), rfl⟩
     ·cases ho
      unfold GivesOp
      go_simp
      exact ⟨Or.inr (Or.inr (Or.inr rfl)), HGN.out _ (by simp), rfl⟩
     ·cases ho
      unfold GivesOp
      go_simp
      exact ⟨Or.inr (Or.inr (Or.inr rfl)), HGN.out _ (by simp), rfl⟩
     ·cases ho
      have h5 : vs 5 = _ := hd ⟨5, .data⟩ (by simp) rfl
      rw [h5] at i5
      have ew : IntKind.i64.wrap ((d' : Int) + 1) = (d' : Int) + 1 := IntWalk.i64_in _ (by omega)
      unfold GivesOp
      go_simp
      exact ⟨Or.inr (Or.inr (Or.inr rfl)), HGN.out _ (by simp), rfl⟩
     ·cases ho
      have h2 : vs 2 = _ := hd ⟨2, .data⟩ (by simp) rfl
      have h3 : vs 3 = _ := hd ⟨3, .data⟩ (by simp) rfl
      have h4 : vs 4 = _ := hd ⟨4, .data⟩ (by simp) rfl
      have h6' : vs 6 = _ := hd ⟨6, .data⟩ (by simp) rfl
      rw [h2] at i2
      rw [h3] at i3
      rw [h4] at i4
      rw [h6'] at i6
      unfold GivesOp
      go_simp
      have hno : 9 ∉ L := fun h => by have := hnc 9 h; revert this; decide +kernel
      have hCW := HG.out.2.2 hno
      have hCw := HC1.out.then (HCR.out.then hCW)
      refine (IH.out d' (by omega) (by omega) HG.out.2.1 a n c an nn cn (((w.heap.size + 1) :: w1.heap.size :: bd :: M) ++ rowOf v) (HS.out.mono hCw.sub) (HN.out.mono hCw.sub) (fun q hq => by
       have hz := hCw.size
       rcases List.mem_append.1 hq with hq | hq
       ·simp only [List.mem_cons] at hq
        rcases hq with rfl | rfl | rfl | hq
        ·omega
        ·omega
        ·omega
        have := HM.out q hq; omega
       have := HROWL.out q hq; omega)).mono ?_
      rintro e W' ⟨x, xv, rfl, hmx, hix, hd', hc'⟩
      refine ⟨_, rfl, Or.inl rfl, ⟨HG.out.1.trans hc' (fun q hq => Or.inl (by simp at hq; subst hq; simp)), hd', fun _ => hCW.then hc'⟩, x, xv, rfl, hmx, ?_⟩
      simpa using hix
     ·cases ho
      obtain ⟨x, xv, h7, hmx, hix⟩ := hd ⟨7, .data⟩ (by simp) rfl
      rw [h7] at i7
      unfold ExV.val exV at i7
      have hno : 9 ∉ L := fun h => by have := hnc 9 h; revert this; decide +kernel
      have HCW := hI (HG.out.2.2 hno)
      have HMX := hI hmx
      have HIX := hI hix
      clear hmx hix
      unfold GivesOp
      go_simp
      refine ⟨Or.inr (Or.inl rfl), ⟨HG.out.1.alloc _, HG.out.2.1.ext ((Ext.refl W).alloc _), fun _ => HCW.out.alloc _⟩, W.heap.size, x, xv, rfl, alloc_new W _, HMX.out, HIX.out.mono (mask_ext _ ((Ext.refl W).alloc _)), ?_⟩
      exact owns_ext (owns_chg HOW.out HCW.out (fun q hq h => by have h2 : q = bd := List.mem_singleton.1 h; have := (HOW.out.lt q hq).1; omega)) ((Ext.refl W).alloc _)
     ·cases ho
      have h1 : vs 1 = _ := hd ⟨1, .data⟩ (by simp) rfl
      obtain ⟨x0, x, xv, h8, hx0, hmx, hix, hxo⟩ := hd ⟨8, .data⟩ (by simp) rfl
      rw [h1] at i1
      rw [h8] at i8
      have hnew : ∀ q (hq : q < xv.cells.length), W.cell? ⟨x0, q, none⟩ = some xv.cells[q] := by
       intro q hq
       rw [blk_cell hx0]
       simp [hq]
      refine gives_append elemEx _ _ (w1.heap.size + 1) _ l.length _ i1 x0 1 1 xv.cells i8 rfl (by simp [ExV.cells, Value.oneCell']) (by omega) (by omega) (by omega) hxo hnew (by omega) ?_
      intro g cap w' ho' hg' hl' _
      have hgc : Chg (rowOf v) W w' := grown_chg hg'
      refine ⟨Or.inr (Or.inr (Or.inl rfl)), ⟨HG.out.1.trans hgc (fun q hq => Or.inl (List.mem_cons_of_mem _ hq)), HG.out.2.1.chg hgc (fun h => by have := HROW.out _ h; omega) (fun q hq => by have := HROW.out q hq; omega), fun h => absurd (by simp) h⟩, g, cap, x, xv, rfl, by rw [List.flatMap_append]; simpa using ho', hmx, hix.mono (mask_sub_mask fun q hq hn => ⟨fun h => by
       rcases List.mem_append.1 h with h | h
       ·exact hn h
       have h2 : q = g := List.mem_singleton.1 h
       rcases hl' with h3 | h3
       ·exact hn (List.mem_append_right _ (mem_rowOf.2 (h2 ▸ h3)))
       omega, hgc.block q hq (fun h => hn (List.mem_append_right _ h))⟩), ?_⟩
      rcases hl' with h | h
      ·exact Or.inl h
      exact Or.inr (by omega)
     cases ho
     unfold GivesOp
     go_simp
     exact ⟨Or.inr (Or.inr (Or.inr rfl)), HGN.out _ (by simp), rfl⟩
    intro L vs W _ hG hR
    rw [if_neg (by decide +kernel)]
    obtain ⟨g, cap, x, xv, h9, hown2, hmx, hix, hgl⟩ := hR 9 (by simp) (by omega)
    have h10 : vs 10 = _ := hR 10 (by simp) (by omega)
    have hC := hG.1
    have hbx2 := hC.blk HBX.out (fun h => by
     rcases List.mem_cons.1 h with h | h
     ·have h2 : w1.heap.size = bd := h; omega
     have h2 : w1.heap.size + 1 <= w1.heap.size := HROW.out _ h; omega)
    have hbl2 := blk_lt hbx2
    have HBX2 := hI hbx2
    have HOW2 := hI hown2
    have HC := hI hC
    have HDK := hI hG.2.1
    have HMX := hI hmx
    have HIX := hI hix
    have HGL := hI hgl
    clear e0 e1 e2 e3 e4 e5 ef cs0
    obtain ⟨e0, e1, e2, e3, e4, e5, ef⟩ := blk6 hbx2
    clear hG hR hC hbx2 hown2 hmx hix hgl
    unfold wpOp
    simp only [acts, dstAt, List.range, List.range.loop, List.foldl_cons, List.foldl_nil, h9, h10]
    clear h9 h10
    go_simp
    refine Or.inl ?_
    go_wp2_with fail
    go_roundw
    case rel =>
     have hset := (Chg.refl [w1.heap.size] W).setCell (p := ⟨w1.heap.size, 5, none⟩) (Or.inl (by simp)) (.slice (some ⟨g, 0, none⟩) (l.length + 1) cap)
     have hg1 := (HOW2.out.lt g rfl).1
     have hg2 := (HOW2.out.lt g rfl).2
     refine ⟨l ++ [x], xs ++ [xv], .slice (some ⟨g, 0, none⟩) (l.length + 1) cap, by simp; omega, (by simp; omega), ?_, ?_, ?_, ?_, ?_, ?_⟩
     ·intro e he
      rcases List.mem_append.1 he with he | he
      ·exact HML.out e he
      simp at he; subst he; exact HMX.out
     ·rw [heap_setCell_same _ _ _ _ _ _ HBX2.out]; rfl
     ·rw [List.length_append, List.length_singleton]
      exact owns_chg HOW2.out hset (fun q hq h => by cases hq; have h2 : g = w1.heap.size := List.mem_singleton.1 h; omega)
     ·have hrg : rowOf (.slice (some ⟨g, 0, none⟩) (l.length + 1) cap) = [g] := rfl
      rw [hrg]
      refine ExsR.snoc (HEX.out.mono (mask_sub_mask fun q hq hn => ⟨fun h => ?_, ?_⟩)) (HIX.out.mono (mask_sub_mask fun q hq hn => ⟨fun h => ?_, ?_⟩))
      ·rcases List.mem_append.1 h with h | h
       ·exact hn (List.mem_append_left _ h)
       have h2 : q = g := List.mem_singleton.1 h
       rcases HGL.out with h3 | h3
       ·exact hn (List.mem_append_right _ (mem_rowOf.2 (h2 ▸ h3)))
       omega
      ·rw [hset.block q (by have := HC.out.size; omega) (fun h => hn (by have h2 : q = w1.heap.size := List.mem_singleton.1 h; simp [h2]))]
       exact HC.out.block q hq (fun h => hn (by
        rcases List.mem_cons.1 h with h | h
        ·simp [h]
        exact List.mem_append_right _ h))
      ·rcases List.mem_append.1 h with h | h
       ·exact hn (List.mem_append_left _ (List.mem_append_left _ h))
       exact hn (List.mem_append_right _ h)
      exact hset.block q hq (fun h => hn (by have h2 : q = w1.heap.size := List.mem_singleton.1 h; simp [h2]))
     ·refine (HCR.out.trans HC.out (fun q hq => ?_)).trans hset (fun q hq => by have h2 : q = w1.heap.size := List.mem_singleton.1 hq; exact Or.inr (by omega))
      rcases List.mem_cons.1 hq with rfl | hq
      ·exact Or.inl (by simp)
      exact Or.inr (by have := HROW.out q hq; omega)
     exact HDK.out.chg hset (by rw [List.mem_singleton]; omega) (fun q hq => by have h2 : q = w1.heap.size := List.mem_singleton.1 hq; omega)
    case measure => simp [intOf]; omega
   have hll : (l.length : Int) = k0 := by omega
   have t4 : decide (0 < k0 - (l.length : Int)) = false := by simp; omega
   have hrb := (HCR.out.blk HB21.out (by simp; omega))
   have hra2 := blk_lt hrb
   unfold exV0 ExV.cells at hrb
   obtain ⟨b0, b1, b2, b3, b4, b5, bf⟩ := blk6 hrb
   obtain ⟨sa, sc, hv, hq1, hq2, hq3⟩ := exs_owns (M := (w.heap.size + 1) :: M) HOW.out (fun q hq h => by
    have h1 := (HOW.out.lt q hq).1
    rcases List.mem_cons.1 h with h | h
    ·omega
    have := HM.out q h; omega) (HEX.out.mono (mask_less _ (fun q hq => List.mem_append_left _ (by
    rcases List.mem_cons.1 hq with h | h
    ·simp [h]
    simp [h]))))
   subst hv
   have HFX := hI (show IsEx (mask wr ((w.heap.size + 1) :: M)) (.mk (r1 + 1) ⟨#[]⟩ [] 0 0 l) (exV (r1 + 1) ⟨#[]⟩ none 0 0 0 0 sa l.length sc) from IsEx.mk ⟨rfl, by omega, Or.inl ⟨rfl, rfl⟩, fun i hi => by simp at hi⟩ rfl hq1 hq2 hq3)
   have HFM := hI (show MadeE attrs names (d' + 1 + 1) (.mk (r1 + 1) ⟨#[]⟩ [] 0 0 l) from Or.inr ⟨Or.inr ⟨by simp only [Ex.op]; omega, by simp only [Ex.args]; omega, by simp only [Ex.args]; omega⟩, rfl, rfl, rfl, rfl, HML.out⟩)
   clear hrb hq1 hq2 hq3 hll cs0
   go_wp2_with fail
   refine bodyPost_ret (v := (ExV.mk (r1 + 1) ⟨#[]⟩ none 0 0 0 0 sa l.length sc).val) (by simp [results, Tryz.results40, go_sem, ExV.val, exV, b0, b1, b2, b3, b4, b5]) rfl ?_
   exact made_fin (e := .mk (r1 + 1) ⟨#[]⟩ [] 0 0 l) (x := ⟨r1 + 1, ⟨#[]⟩, none, 0, 0, 0, 0, sa, l.length, sc⟩) (HC1.out.then HCR.out) HDR.out (by omega) hbd HFM.out HFX.out
instance okAttrDec (a : Attr) : Decidable (OkAttr a) := by unfold OkAttr; infer_instance
theorem schemas_ok : ∀ l ∈ schemas, (∀ a ∈ l, OkAttr a) /\ l ≠ [] /\ l.length <= 1000 := by
 have h : ∀ l ∈ schemas, (∀ a ∈ l, OkAttr a) /\ l.length ≠ 0 /\ l.length <= 1000 := by decide +kernel
 intro l hl
 obtain ⟨h1, h2, h3⟩ := h l hl
 exact ⟨h1, fun e => h2 (by rw [e]; rfl), h3⟩
theorem okTree_parts {e : Ex} (h : okTree e) : okNode e /\ ∀ x ∈ e.args, okTree x := by
 cases e; unfold okTree at h; exact ⟨h.1, okTrees_mem h.2⟩
theorem okTree_mk {e : Ex} (h1 : okNode e) (h2 : ∀ x ∈ e.args, okTree x) : okTree e := by
 cases e with
 | mk op name words lo hi args =>
  unfold okTree
  refine ⟨h1, ?_⟩
  simp only [Ex.args] at h2
  clear h1
  induction args with
  | nil => unfold okTrees; trivial
  | cons a r ih => unfold okTrees; exact ⟨h2 a (by simp), ih (fun x hx => h2 x (List.mem_cons_of_mem _ hx))⟩
def okAttr2 (a : Attr) : Bool := nameB a.name && decide (a.name.size <= 7) && (a.kind != 1 || (decide (a.words.length <= 4) && a.words.all fun x => nameB x && decide (x.size <= 5))) && (a.kind != 2 || (decide (-1000000000 <= a.lo) && decide (a.hi <= 1000000000)))
theorem schemas_ok2 : (schemas.all fun l => l.all okAttr2) = true := by decide +kernel
theorem firstI_none {f : Nat -> Int} : (n : Nat) -> (firstI f n).2 = 0 -> ∀ j, j < n -> f j = 0
 | 0, _, j, hj => by omega
 | n + 1, h, j, hj => by
  rw [firstI] at h
  by_cases h1 : (firstI f n).2 ≠ 0
  ·rw [if_pos h1] at h; exact absurd h h1
  rw [if_neg h1] at h
  have h1' : (firstI f n).2 = 0 := by simpa using h1
  by_cases h2 : f n ≠ 0
  ·rw [if_pos h2] at h; exact absurd h h2
  rcases Nat.lt_succ_iff_lt_or_eq.1 hj with h3 | h3
  ·exact firstI_none n h1' j h3
  subst h3; simpa using h2
structure Chk (s : List Attr) (l : List Cla) : Prop where
 sch : schemaErr s = 0
 len : l.length <= 100
 good : ∀ c ∈ l, okTree c.cond /\ nodesErr s l c.cond = 0 /\ refExprB c.cond = true /\ nameB c.name = true /\ attrAt s c.name = none
 uniq : ∀ i j, i < l.length -> j < i -> (l.getD j cla0).name ≠ (l.getD i cla0).name
 exp : ∀ c ∈ l, expanded l c.cond <= 2000
theorem getD_clK {l : List Cla} {i : Nat} (h : i < l.length) : l.getD i cla0 = l[i] := by simp [h]
theorem findAt_le {l : List Cla} {x : BA} {j : Nat} (hj : j < l.length) (h : (l.getD j cla0).name = x) : (findAt l x).getD 0 <= j := by
 unfold findAt
 cases hf : l.findIdx? (fun c => decide (c.name = x)) with
 | none =>
  rw [List.findIdx?_eq_none_iff] at hf
  have := hf _ (List.getElem_mem hj)
  rw [getD_clK hj] at h
  simp [h] at this
 | some k =>
  rw [List.findIdx?_eq_some_iff_getElem] at hf
  obtain ⟨hk, _, h2⟩ := hf
  simp only [Option.getD_some]
  rcases Nat.lt_or_ge j k with h3 | h3
  ·have := h2 j h3
   rw [getD_clK hj] at h
   simp [h] at this
  exact h3
theorem chk_of {s : List Attr} {l : List Cla} (h : (clausesErr s l).2 = 0) : Chk s l := by
 unfold clausesErr at h
 by_cases h1 : schemaErr s ≠ 0
 ·rw [if_pos h1] at h; exact absurd h h1
 rw [if_neg h1] at h
 by_cases h2 : 100 < l.length
 ·rw [if_pos h2] at h; simp at h
 rw [if_neg h2] at h
 by_cases h3 : (firstI (claErr s l) l.length).2 ≠ 0
 ·rw [if_pos h3] at h; exact absurd h h3
 rw [if_neg h3] at h
 by_cases h4 : ¬ Sorts (l.map Cla.dfn)
 ·rw [if_pos h4] at h; simp at h
 rw [if_neg h4] at h
 have hc := firstI_none l.length (by simpa using h3)
 have hg := firstI_none l.length h
 have hcl : ∀ i, i < l.length -> clauseB (l.getD i cla0) = true /\ i <= (findAt l (l.getD i cla0).name).getD 0 /\ attrAt s (l.getD i cla0).name = none /\ nodesErr s l (l.getD i cla0).cond = 0 := by
  intro i hi
  have := hc i hi
  unfold claErr at this
  by_cases g1 : clauseB (l.getD i cla0) = false
  ·rw [if_pos g1] at this; cases this
  rw [if_neg g1] at this
  by_cases g2 : (findAt l (l.getD i cla0).name).getD 0 < i
  ·rw [if_pos g2] at this; cases this
  rw [if_neg g2] at this
  by_cases g3 : (attrAt s (l.getD i cla0).name).isSome
  ·rw [if_pos g3] at this; cases this
  rw [if_neg g3] at this
  by_cases g4 : nodesErr s l (l.getD i cla0).cond ≠ 0
  ·rw [if_pos g4] at this; exact absurd this g4
  exact ⟨by simpa using g1, by omega, by simpa using g3, by simpa using g4⟩
 refine ⟨by simpa using h1, by omega, fun c hm => ?_, fun i j hi hj e => ?_, fun c hm => ?_⟩
 ·obtain ⟨i, hi, rfl⟩ := List.getElem_of_mem hm
  obtain ⟨q1, _, q3, q4⟩ := hcl i hi
  rw [getD_clK hi] at q1 q3 q4
  simp only [clauseB, Bool.and_eq_true] at q1
  obtain ⟨⟨⟨⟨_, q5⟩, q6⟩, _⟩, _⟩ := q1
  refine ⟨?_, q4, q6, q5, q3⟩
  rw [refExprB, Bool.and_eq_true, Bool.and_eq_true] at q6
  exact (nodes_ok _).1 q6.2
 ·obtain ⟨_, q2, _, _⟩ := hcl i hi
  have := findAt_le (l := l) (x := (l.getD i cla0).name) (j := j) (by omega) e
  omega
 obtain ⟨i, hi, rfl⟩ := List.getElem_of_mem hm
 have := hg i hi
 unfold claLarge at this
 rw [getD_clK hi] at this
 by_cases g : 2000 < expanded l l[i].cond \/ backsLarge l l[i].unl = true
 ·rw [if_pos g] at this; cases this
 simp only [not_or] at g; omega
theorem attrAt_at {s : List Attr} {x : BA} {i : Nat} (h : attrAt s x = some i) : i < s.length /\ (s.getD i attr0).name = x := by
 unfold attrAt at h
 rw [List.findIdx?_eq_some_iff_getElem] at h
 obtain ⟨hi, h1, _⟩ := h
 exact ⟨hi, by simpa [hi] using h1⟩
theorem defAt_atK {l : List Cla} {x : BA} {d : Nat} (h : defAt l x = some d) : d < l.length /\ (l.getD d cla0).kind = 1 /\ (l.getD d cla0).name = x := by
 unfold defAt at h
 rw [List.findIdx?_eq_some_iff_getElem] at h
 obtain ⟨hi, h1, _⟩ := h
 simp only [Bool.and_eq_true, beq_iff_eq, decide_eq_true_eq] at h1
 rw [getD_clK hi]
 exact ⟨hi, h1.1, h1.2⟩
theorem Chk.apart {s : List Attr} {l : List Cla} (h : Chk s l) {x : BA} {d : Nat} (hd : defAt l x = some d) : attrAt s x = none := by
 obtain ⟨h1, _, h3⟩ := defAt_atK hd
 rw [getD_clK h1] at h3
 rw [<- h3]
 exact (h.good _ (List.getElem_mem h1)).2.2.2.2
theorem Chk.cond {s : List Attr} {l : List Cla} (h : Chk s l) {d : Nat} (hd : d < l.length) : okTree (l.getD d cla0).cond /\ nodesErr s l (l.getD d cla0).cond = 0 /\ (l.getD d cla0).cond.size <= 300 := by
 rw [getD_clK hd]
 obtain ⟨q1, q2, q3, _, _⟩ := h.good _ (List.getElem_mem hd)
 refine ⟨q1, q2, ?_⟩
 rw [refExprB, Bool.and_eq_true, Bool.and_eq_true] at q3
 have := q3.1.2
 simp only [decide_eq_true_eq] at this
 unfold refSize at this
 omega
theorem schema_attrs {s : List Attr} (h : schemaErr s = 0) : 1 <= s.length /\ s.length <= 6 /\ ∀ i (hi : i < s.length), attrErr s[i] = 0 /\ nameB s[i].name = true := by
 unfold schemaErr at h
 by_cases h1 : s.length = 0
 ·rw [if_pos h1] at h; cases h
 rw [if_neg h1] at h
 by_cases h2 : 6 < s.length
 ·rw [if_pos h2] at h; cases h
 rw [if_neg h2] at h
 refine ⟨by omega, by omega, fun i hi => ?_⟩
 have := firstI_none s.length h i hi
 unfold attrIErr at this
 have e1 : s.getD i attr0 = s[i] := by simp [hi]
 rw [e1] at this
 by_cases g1 : nameB s[i].name = false
 ·rw [if_pos g1] at this; cases this
 rw [if_neg g1] at this
 by_cases g2 : (s.take i).any (fun b => decide (b.name = s[i].name)) = true
 ·rw [if_pos g2] at this; cases this
 rw [if_neg g2] at this
 exact ⟨this, by simpa using g1⟩
theorem attr_dom {a : Attr} (h : attrErr a = 0) : (domB a).1 <= (domB a).2 /\ -1000000000 <= (domB a).1 /\ (domB a).2 <= 1000000000 /\ (a.kind = 1 \/ a.kind = 2 \/ a.kind = 3) /\ (a.kind = 1 -> 1 <= a.words.length /\ a.words.length <= 12) := by
 unfold attrErr at h
 unfold domB
 by_cases h1 : a.kind = 1
 ·rw [if_pos h1] at h ⊢
  by_cases g1 : a.lo ≠ 0 \/ a.hi ≠ 0
  ·rw [if_pos g1] at h; cases h
  rw [if_neg g1] at h
  by_cases g2 : a.words.length = 0
  ·rw [if_pos g2] at h; cases h
  rw [if_neg g2] at h
  by_cases g3 : 12 < a.words.length
  ·rw [if_pos g3] at h; cases h
  exact ⟨by simp only; omega, by simp only; omega, by simp only; omega, Or.inl h1, fun _ => ⟨by omega, by omega⟩⟩
 rw [if_neg h1] at h ⊢
 by_cases h2 : a.kind = 2
 ·rw [if_pos h2] at h ⊢
  by_cases g1 : 0 < a.words.length
  ·rw [if_pos g1] at h; cases h
  rw [if_neg g1] at h
  by_cases g2 : a.hi < a.lo \/ farB a.lo = true \/ farB a.hi = true
  ·rw [if_pos g2] at h; cases h
  simp only [not_or, farB, numberB, Bool.not_eq_true', decide_eq_false_iff_not, Decidable.not_not] at g2
  exact ⟨by simp only; omega, by simp only; omega, by simp only; omega, Or.inr (Or.inl h2), fun e => absurd e h1⟩
 rw [if_neg h2] at h ⊢
 by_cases h3 : a.kind = 3
 ·exact ⟨by decide, by decide, by decide, Or.inr (Or.inr h3), fun e => absurd e h1⟩
 rw [if_neg h3] at h; cases h
theorem nameB_le {x : BA} (h : nameB x = true) : x.size <= 16 := by
 simp only [nameB, wordB, Bool.and_eq_true, decide_eq_true_eq] at h
 exact h.1.1.1.1.2
theorem expL_mem {D : BA -> Option Nat} : (l : List Ex) -> (k : Nat) -> (hk : k < l.length) -> expE D l[k] <= expL D l
 | [], k, hk => by simp at hk
 | e :: r, 0, _ => by simp [expL]
 | e :: r, k + 1, hk => by
  have := expL_mem (D := D) r k (by simpa using hk)
  simp only [expL, List.getElem_cons_succ]
  omega
theorem expE_arg {D : BA -> Option Nat} {e : Ex} (h : expE D e <= 2000) (k : Nat) (hk : k < e.args.length) : expE D e.args[k] <= 2000 := by
 rw [expE_eq] at h
 have := expL_mem (D := D) e.args k hk
 omega
theorem expE_hd {D : BA -> Option Nat} {e : Ex} (h : expE D e <= 2000) (h3 : e.op = 3) {n : Nat} (hn : D e.name = some n) : n <= 2000 := by
 rw [expE_eq, if_pos h3, hn] at h
 simp only [Option.getD_some] at h
 omega
theorem nodesL_at {s : List Attr} {l : List Cla} : (r : List Ex) -> nodesErrL s l r = 0 -> ∀ k (hk : k < r.length), nodesErr s l r[k] = 0
 | [], _, k, hk => by simp at hk
 | e :: r, h, k, hk => by
  rw [nodesErrL] at h
  by_cases h1 : nodesErr s l e ≠ 0
  ·rw [if_pos h1] at h; exact absurd h h1
  rw [if_neg h1] at h
  cases k with
  | zero => simpa using h1
  | succ k => simpa using nodesL_at r h k (by simpa using hk)
theorem nodes_parts {s : List Attr} {l : List Cla} {e : Ex} (h : nodesErr s l e = 0) : nodeErr s l e.op e.name e.words e.lo e.hi = 0 /\ ∀ k (hk : k < e.args.length), nodesErr s l e.args[k] = 0 := by
 rw [nodesErr_eq] at h
 by_cases h1 : nodeErr s l e.op e.name e.words e.lo e.hi ≠ 0
 ·rw [if_pos h1] at h; exact absurd h h1
 rw [if_neg h1] at h
 exact ⟨by simpa using h1, nodesL_at _ h⟩
theorem node_ways {s : List Attr} {l : List Cla} {e : Ex} (ht : okTree e) (h : nodesErr s l e = 0) : (e.op = 1) \/ (e.op = 2) \/
  (e.op = 3 /\ ∃ i, attrAt s e.name = some i /\ (s.getD i attr0).kind = 3) \/ (e.op = 3 /\ attrAt s e.name = none /\ ∃ d, defAt l e.name = some d) \/
  (e.op = 4 /\ ∃ i, attrAt s e.name = some i /\ (s.getD i attr0).kind = 1) \/ (e.op = 5 /\ ∃ i, attrAt s e.name = some i /\ (s.getD i attr0).kind = 2) \/
  (e.op = 6 /\ e.args.length = 1) \/ e.op = 7 \/ e.op = 8 := by
 have h0 := (nodes_parts h).1
 rcases (okTree_parts ht).1 with ⟨h1, -⟩ | ⟨h1, -⟩ | ⟨h1, -⟩ | ⟨h1, -⟩ | ⟨h1, -⟩ | ⟨h1, -, -, -, -, h2⟩ | ⟨h1 | h1, -⟩
 ·exact Or.inl h1
 ·exact Or.inr (Or.inl h1)
 ·unfold nodeErr at h0
  rw [if_pos h1] at h0
  cases ha : attrAt s e.name with
  | some i =>
   rw [ha] at h0
   simp only at h0
   by_cases hk : (s.getD i attr0).kind ≠ 3
   ·rw [if_pos hk] at h0; cases h0
   exact Or.inr (Or.inr (Or.inl ⟨h1, i, rfl, by simpa using hk⟩))
  | none =>
   rw [ha] at h0
   simp only at h0
   cases hd : defAt l e.name with
   | some d => exact Or.inr (Or.inr (Or.inr (Or.inl ⟨h1, rfl, d, rfl⟩)))
   | none => rw [hd] at h0; simp at h0
 ·unfold nodeErr at h0
  rw [if_neg (by omega), if_pos h1] at h0
  cases ha : attrAt s e.name with
  | some i =>
   rw [ha] at h0
   simp only at h0
   by_cases hk : (s.getD i attr0).kind ≠ 1
   ·rw [if_pos hk] at h0; cases h0
   exact Or.inr (Or.inr (Or.inr (Or.inr (Or.inl ⟨h1, i, rfl, by simpa using hk⟩))))
  | none => rw [ha] at h0; cases h0
 ·unfold nodeErr at h0
  rw [if_neg (by omega), if_neg (by omega), if_pos h1] at h0
  cases ha : attrAt s e.name with
  | some i =>
   rw [ha] at h0
   simp only at h0
   by_cases hk : (s.getD i attr0).kind ≠ 2
   ·rw [if_pos hk] at h0; cases h0
   exact Or.inr (Or.inr (Or.inr (Or.inr (Or.inr (Or.inl ⟨h1, i, rfl, by simpa using hk⟩)))))
  | none => rw [ha] at h0; cases h0
 ·exact Or.inr (Or.inr (Or.inr (Or.inr (Or.inr (Or.inr (Or.inl ⟨h1, h2⟩))))))
 ·exact Or.inr (Or.inr (Or.inr (Or.inr (Or.inr (Or.inr (Or.inr (Or.inl h1)))))))
 exact Or.inr (Or.inr (Or.inr (Or.inr (Or.inr (Or.inr (Or.inr (Or.inr h1)))))))
def wordsErr (l : ZB) : Int := if l.length = 0 then 19 else if 12 < l.length then 4 else if l.all nameB = false then 6 else if decide l.Nodup = false then 8 else 0
theorem attrErr_word (a : Attr) (h : a.kind = 1) : attrErr a = if a.lo ≠ 0 \/ a.hi ≠ 0 then 20 else wordsErr a.words := by
 unfold attrErr wordsErr; rw [if_pos h]
theorem nodup_snoc {l : ZB} {k : Nat} (hk : k < l.length) (h : (l.take k).Nodup) (h2 : l[k] ∉ l.take k) : (l.take (k + 1)).Nodup := by
 rw [List.take_succ_eq_append_getElem hk, List.nodup_append]
 exact ⟨h, by simp, fun a ha b hb => by simp at hb; subst hb; intro e; subst e; exact h2 ha⟩
theorem not_nodup {l : ZB} {k : Nat} (hk : k < l.length) (h : l[k] ∈ l.take k) : ¬ l.Nodup := by
 intro h4
 have : (l.take (k + 1)).Nodup := h4.sublist (List.take_sublist _ _)
 rw [List.take_succ_eq_append_getElem hk, List.nodup_append] at this
 exact absurd rfl (this.2.2 _ h _ (by simp))
theorem swords_calls (l : ZB) (a : OA) (n c : Nat) (w : World) (hl : IsStrs w l a n c) (hn2 : n <= 1000000000000000) (hsz : ∀ x ∈ l, x.size <= 1000000000000000) :
  Calls Tryz.prog 135 #[.slice a n c] w (Gives (.int .i64 (wordsErr l)) w) := by
 have HL := hI hl
 have HZ := hI hsz
 have HN := hI hl.1
 have hnc := hl.2.1
 clear hl hsz
 by_cases h0 : n = 0
 ·have H := hI (show wordsErr l = 19 by unfold wordsErr; rw [if_pos (by have := HN.out; omega)])
  have hz : ((n : Int) == 0) = true := by simp [h0]
  clear h0
  go_enter Tryz.func135, Tryz.ntmps135
  go_wp2_with fail
  go_ret
  exact gives_int (by rw [H.out])
 have hz : ((n : Int) == 0) = false := by simp [h0]
 by_cases h12 : 12 < n
 ·have H := hI (show wordsErr l = 4 by unfold wordsErr; rw [if_neg (by have := HN.out; omega), if_pos (by have := HN.out; omega)])
  have t12 : decide ((12 : Int) < (n : Int)) = true := decide_eq_true (by omega)
  go_enter Tryz.func135, Tryz.ntmps135
  go_wp2_with fail
  go_ret
  exact gives_int (by rw [H.out])
 have t12 : decide ((12 : Int) < (n : Int)) = false := decide_eq_false (by omega)
 have HE := hI (show wordsErr l = if l.all nameB = false then 6 else if decide l.Nodup = false then 8 else 0 by unfold wordsErr; rw [if_neg (by have := HN.out; omega), if_neg (by have := HN.out; omega)])
 obtain ⟨E, hE⟩ : ∃ E, E = wordsErr l := ⟨_, rfl⟩
 rw [<- hE] at HE ⊢
 clear hE
 go_enter Tryz.func135, Tryz.ntmps135
 go_wp2_with fail
 go_loop [15] (fun t => ∃ k : Nat, t = .int .i64 k /\ k <= n /\ ∀ j (h : j < l.length), j < k -> nameB l[j] = true) (fun t => n - (intOf t).toNat)
 case atStart => exact ⟨0, rfl, by omega, fun j _ h => by omega⟩
 case round =>
  obtain ⟨k, rfl, hk, hall⟩ := hrel
  have HA := hI hall
  clear hall
  by_cases hlt : k < n
  ·have hlt' : k < l.length := by have := HN.out; omega
   have t1 : decide ((k : Int) < (n : Int)) = true := decide_eq_true (by omega)
   have hsk := HZ.out _ (List.getElem_mem hlt')
   obtain ⟨b, off, rfl, hcell⟩ := HL.out.2.2.2 k hlt'
   cases h3 : nameB l[k]
   ·have H := hI (show E = 6 by
     rw [HE.out, if_pos]
     rw [List.all_eq_false]
     exact ⟨l[k], List.getElem_mem hlt', by rw [h3]; simp⟩)
    have H3 := hI h3
    clear h3
    go_wp2_with fail
    refine (name_calls _ _ hsk).mono ?_
    rintro e w' ⟨rfl, rfl⟩
    rw [H3.out]
    go_wp2_with fail
    go_ret
    exact gives_int (by rw [H.out])
   have H3 := hI h3
   clear h3
   go_wp2_with fail
   refine (name_calls _ _ hsk).mono ?_
   rintro e w' ⟨rfl, rfl⟩
   rw [H3.out]
   go_wp2_with fail
   go_round
   case rel =>
    refine ⟨k + 1, by go_num, by omega, fun j hj hjk => ?_⟩
    by_cases e : j = k
    ·subst e; exact H3.out
    exact HA.out j hj (by omega)
   case measure => simp [intOf]; omega
  have t1 : decide ((k : Int) < (n : Int)) = false := decide_eq_false (by omega)
  have HE2 := hI (show E = if decide l.Nodup = false then 8 else 0 by
   rw [HE.out, if_neg]
   rw [Bool.not_eq_false, List.all_eq_true]
   intro x hx
   obtain ⟨j, hj, rfl⟩ := List.mem_iff_getElem.1 hx
   exact HA.out j hj (by have := HN.out; omega))
  clear HE HA
  go_wp2_with fail
  go_loop [25] (fun t => ∃ k : Nat, t = .int .i64 k /\ k <= n /\ (l.take k).Nodup) (fun t => n - (intOf t).toNat)
  case atStart => exact ⟨0, rfl, by omega, by simp⟩
  case round =>
   obtain ⟨m, rfl, hm, hno⟩ := hrel
   have HNO := hI hno
   clear hno
   by_cases hmt : m < n
   ·have hmt' : m < l.length := by have := HN.out; omega
    have t2 : decide ((m : Int) < (n : Int)) = true := decide_eq_true (by omega)
    have HT := hI (HL.out.take hm)
    obtain ⟨b, off, rfl, hcell⟩ := HL.out.2.2.2 m hmt'
    by_cases h4 : l[m] ∈ l.take m
    ·have H := hI (show E = 8 by rw [HE2.out, if_pos (by simpa using not_nodup hmt' h4)])
     have H4 := hI h4
     clear h4
     go_wp2_with fail
     refine (contains_calls _ _ _ _ _ _ (by omega) HT.out).mono ?_
     rintro e w' ⟨rfl, rfl⟩
     rw [decide_eq_true H4.out]
     go_wp2_with fail
     go_ret
     exact gives_int (by rw [H.out])
    have H4 := hI h4
    clear h4
    go_wp2_with fail
    refine (contains_calls _ _ _ _ _ _ (by omega) HT.out).mono ?_
    rintro e w' ⟨rfl, rfl⟩
    rw [decide_eq_false H4.out]
    go_wp2_with fail
    go_round
    case rel => exact ⟨m + 1, by go_num, by omega, nodup_snoc hmt' HNO.out H4.out⟩
    case measure => simp [intOf]; omega
   have t2 : decide ((m : Int) < (n : Int)) = false := decide_eq_false (by omega)
   have H := hI (show E = 0 by
    have h5 := HNO.out
    rw [List.take_of_length_le (by have := HN.out; omega)] at h5
    rw [HE2.out, if_neg (by simpa using h5)])
   go_wp2_with fail
   go_ret
   exact gives_int (by rw [H.out])
theorem numberB_iff (n : Int) : numberB n = false ↔ n < -1000000000 \/ 1000000000 < n := by simp [numberB]; omega
theorem sattr_calls (x : Attr) (aw : OA) (nw cw : Nat) (w : World) (hw : IsStrs w x.words aw nw cw) (hf : x.fits) :
  Calls Tryz.prog 105 #[.agg #[.string x.name, .int .i64 x.kind, .slice aw nw cw, .int .i64 x.lo, .int .i64 x.hi]] w (GivesE (.int .i64 (attrErr x)) w) := by
 have HW := hI hw
 have HF := hI hf
 have hnw := hw.1
 have hnl : nw <= 1000000000000000 := by rw [hnw]; exact hf.2.1
 have HNW := hI hnw
 clear hw hf hnw
 obtain ⟨name, kind, words, lo, hi⟩ := x
 simp only at *
 obtain ⟨E, hE⟩ : ∃ E, E = attrErr ⟨name, kind, words, lo, hi⟩ := ⟨_, rfl⟩
 rw [<- hE]
 by_cases h1 : kind = 1
 ·subst h1
  rw [attrErr_word _ rfl] at hE
  simp only at hE
  have HE := hI hE
  clear hE
  have HWC := hI (swords_calls words aw nw cw (w.alloc (.cells #[.string name, .int .i64 1, .slice aw nw cw, .int .i64 lo, .int .i64 hi] 101)) (HW.out.ext ((Ext.refl w).alloc _)) hnl HF.out.2.2)
  by_cases hlo : lo = 0
  ·have t1 : (lo != 0) = false := by simp [hlo]
   by_cases hhi : hi = 0
   ·have t2 : (hi != 0) = false := by simp [hhi]
    have HQ := hI (show E = wordsErr words by rw [HE.out, if_neg (by simp [hlo, hhi])])
    clear HE hlo hhi
    go_enter Tryz.func105, Tryz.ntmps105
    go_wp2_with fail
    refine HWC.out.mono ?_
    rintro e w' ⟨rfl, rfl⟩
    go_wp2_with fail
    go_ret
    exact givesE_of (by rw [HQ.out]) ((Ext.refl w).alloc _)
   have t2 : (hi != 0) = true := by simp [hhi]
   have HQ := hI (show E = 20 by rw [HE.out, if_pos (Or.inr hhi)])
   clear HE hlo hhi
   go_enter Tryz.func105, Tryz.ntmps105
   go_wp2_with fail
   go_ret
   exact givesE_of (by rw [HQ.out]) ((Ext.refl w).alloc _)
  have t1 : (lo != 0) = true := by simp [hlo]
  have HQ := hI (show E = 20 by rw [HE.out, if_pos (Or.inl hlo)])
  clear HE hlo
  go_enter Tryz.func105, Tryz.ntmps105
  go_wp2_with fail
  go_ret
  exact givesE_of (by rw [HQ.out]) ((Ext.refl w).alloc _)
 have e1 : (kind == 1) = false := by simp [h1]
 by_cases h2 : kind = 2
 ·subst h2
  have HE := hI (show E = if 0 < nw then 20 else if hi < lo \/ (lo < -1000000000 \/ 1000000000 < lo) \/ (hi < -1000000000 \/ 1000000000 < hi) then 1 else 0 by
   rw [hE]
   have k1 := numberB_iff lo
   have k2 := numberB_iff hi
   simp only [attrErr, farB, Bool.not_eq_true', k1, k2]
   rw [if_neg (by omega), if_pos trivial, <- HNW.out])
  clear hE
  go_enter Tryz.func105, Tryz.ntmps105
  go_wp2_with fail
  all_goals (go_ret; exact givesE_of (by rw [HE.out]; simp_all <;> omega) ((Ext.refl w).alloc _))
 have e2 : (kind == 2) = false := by simp [h2]
 by_cases h3 : kind = 3
 ·subst h3
  have HE := hI (show E = if 0 < nw \/ lo ≠ 0 \/ hi ≠ 0 then 20 else 0 by
   rw [hE]
   simp only [attrErr]
   rw [if_neg (by omega), if_neg (by omega), if_pos trivial, <- HNW.out])
  clear hE
  go_enter Tryz.func105, Tryz.ntmps105
  go_wp2_with fail
  all_goals (go_ret; exact givesE_of (by rw [HE.out]; simp_all <;> omega) ((Ext.refl w).alloc _))
 have e3 : (kind == 3) = false := by simp [h3]
 have HE := hI (show E = 11 by
  rw [hE]
  simp only [attrErr]
  rw [if_neg h1, if_neg h2, if_neg h3])
 clear hE
 go_enter Tryz.func105, Tryz.ntmps105
 go_wp2_with fail
 go_ret
 exact givesE_of (by rw [HE.out]) ((Ext.refl w).alloc _)
theorem attr_dup {s : List Attr} {k : Nat} (hk : k < s.length) : ∃ f, attrAt s s[k].name = some f /\ f <= k /\ ((s.take k).any (fun b => decide (b.name = s[k].name)) = decide (f < k)) := by
 cases h : attrAt s s[k].name with
 | none =>
  unfold attrAt at h
  rw [List.findIdx?_eq_none_iff] at h
  have := h s[k] (List.getElem_mem hk)
  simp at this
 | some f =>
  unfold attrAt at h
  rw [List.findIdx?_eq_some_iff_getElem] at h
  obtain ⟨hf, h1, h2⟩ := h
  have hfk : f <= k := by
   rcases Nat.lt_or_ge k f with h3 | h3
   ·have := h2 k h3
    simp at this
   exact h3
  refine ⟨f, rfl, hfk, ?_⟩
  by_cases h3 : f < k
  ·rw [decide_eq_true h3, List.any_eq_true]
   exact ⟨s[f], List.mem_iff_getElem.2 ⟨f, by simp; omega, by simp⟩, h1⟩
  rw [decide_eq_false h3, List.any_eq_false]
  intro y hy
  obtain ⟨j, hj, rfl⟩ := List.mem_iff_getElem.1 hy
  have hjk : j < k := by simp at hj; omega
  have := h2 j (by omega)
  simpa using this
theorem sValidate_calls (s : List Attr) (v : Value) (w : World) (hs : IsSchema w s v) (hf : ∀ x ∈ s, x.fits) (hl : s.length <= 1000000000000000) :
  Calls Tryz.prog 77 #[v] w (GivesE (.int .i64 (schemaErr s)) w) := by
 obtain ⟨a, n, c, rfl, hn, hnc, hoa, hat⟩ := hs.parts
 have HS := hI hs
 have HN := hI hn
 have HF := hI hf
 have hn2 : n <= 1000000000000000 := by omega
 clear hs hn hat hnc hoa hf
 by_cases h0 : n = 0
 ·have t0 : ((n : Int) == 0) = true := by simp [h0]
  have HE := hI (show schemaErr s = 19 by unfold schemaErr; rw [<- HN.out, if_pos h0])
  clear h0
  go_enter Tryz.func77, Tryz.ntmps77
  go_wp2_with fail
  go_ret
  exact givesE_of (by rw [HE.out]) ((Ext.refl w).alloc _)
 have t0 : ((n : Int) == 0) = false := by simp [h0]
 by_cases h6 : 6 < n
 ·have t6 : decide ((6 : Int) < (n : Int)) = true := decide_eq_true (by omega)
  have HE := hI (show schemaErr s = 4 by unfold schemaErr; rw [<- HN.out, if_neg h0, if_pos h6])
  go_enter Tryz.func77, Tryz.ntmps77
  go_wp2_with fail
  go_ret
  exact givesE_of (by rw [HE.out]) ((Ext.refl w).alloc _)
 have t6 : decide ((6 : Int) < (n : Int)) = false := decide_eq_false (by omega)
 have HE := hI (show schemaErr s = (firstI (attrIErr s) n).2 by unfold schemaErr; rw [<- HN.out, if_neg h0, if_neg h6])
 go_enter Tryz.func77, Tryz.ntmps77
 go_wp2_with fail
 go_loopw [19] (SchI s n a c w) (fun t _ => n - (intOf t).toNat)
 case atStart => exact ⟨0, rfl, by omega, fun j h => by omega, alloc_new w _, (Ext.refl w).alloc _⟩
 case round =>
  obtain ⟨k, rfl, hk, hno, hbx, hx⟩ := hrel
  obtain ⟨wo, rfl⟩ : ∃ wo : World, wo = wr := ⟨_, rfl⟩
  have HNO := hI hno
  have HBX := hI hbx
  have HX := hI hx
  obtain ⟨bb0, bbf⟩ := blk1 hbx
  have hlt0 := blk_lt hbx
  clear hno hbx hx
  by_cases hkn : k < n
  ·have hks : k < s.length := by have := HN.out; omega
   obtain ⟨a', n', c', e', hx1, hx2, hx3, hat⟩ := (HS.out.ext HX.out).parts
   simp only [Value.agg.injEq, Array.mk.injEq, List.cons.injEq, Value.slice.injEq, and_true] at e'
   obtain ⟨rfl, rfl, rfl⟩ := e'
   clear hx1 hx2 hx3
   obtain ⟨b, off, rfl, aw, nw, cw, h0, h1, h2, h3, h4, h5⟩ := hat k hks
   have H5 := hI h5
   have t1 : decide ((k : Int) < (n : Int)) = true := decide_eq_true (by omega)
   have hfk := HF.out _ (List.getElem_mem hks)
   have hfn := hfk.1
   have HFK := hI hfk
   obtain ⟨f, hfa, hfle, hfany⟩ := attr_dup hks
   have HAI := hI (show attrIErr s k = if nameB s[k].name = false then 6 else if decide (f < k) = true then 8 else attrErr s[k] by unfold attrIErr; rw [getD_attr hks, hfany])
   have HFA := hI hfa
   clear hat h5 hfk hfa hfany
   obtain ⟨wa, hwa⟩ : ∃ wa, wa = wo.alloc (.cells #[.string s[k].name, .int .i64 s[k].kind, .slice aw nw cw, .int .i64 s[k].lo, .int .i64 s[k].hi] 101) := ⟨_, rfl⟩
   have hxa : Ext wo wa := by rw [hwa]; exact (Ext.refl _).alloc _
   have hba : wa.heap[wo.heap.size]? = some (.cells #[.string s[k].name, .int .i64 s[k].kind, .slice aw nw cw, .int .i64 s[k].lo, .int .i64 s[k].hi] 101 (0, 0)) := by rw [hwa]; exact alloc_new wo _
   have HXA := hI hxa
   have HBA := hI hba
   have HB2 := hI (hxa.blk HBX.out)
   clear hxa hba
   cases hnb : nameB s[k].name
   ·have HNB := hI hnb
    have HR := hI (show schemaErr s = 6 by
     rw [HE.out, firstI_hit (k := k) (by rw [HAI.out, if_pos hnb]; omega) HNO.out n hkn]
     show attrIErr s k = 6
     rw [HAI.out, if_pos hnb])
    clear hnb HE
    go_wp2_with fail
    rw [<- hwa]
    clear hwa
    refine (name_calls _ _ hfn).mono ?_
    rintro e w' ⟨rfl, rfl⟩
    rw [HNB.out]
    go_wp2_with fail
    go_ret
    exact givesE_of (by rw [HR.out]) (HX.out.trans HXA.out)
   have HNB := hI hnb
   rw [hnb] at HAI
   simp only [Bool.true_eq_false, if_false] at HAI
   clear hnb
   go_wp2_with fail
   rw [<- hwa]
   clear hwa h0 h1 h2 h3 h4 bb0 bbf
   refine (name_calls _ _ hfn).mono ?_
   rintro e w' ⟨rfl, rfl⟩
   rw [HNB.out]
   obtain ⟨d0, df⟩ := blk1 HB2.out
   obtain ⟨a0, a1, a2, a3, a4, af⟩ := blk5b HBA.out
   have hlta := blk_lt HBA.out
   go_wp2_with fail
   refine (sIndex_calls s _ s[k].name _ (HS.out.ext (HX.out.trans HXA.out)) hl).mono ?_
   rintro e w5 ⟨rfl, hx5⟩
   rw [HFA.out, show optV (some f) = .tuple #[.int .i64 f, .bool true] from rfl]
   have HX5 := hI ((HX.out.trans HXA.out).trans hx5)
   have HB5 := hI (hx5.blk HB2.out)
   have HBA5 := hI (hx5.blk HBA.out)
   have H55 := hI (H5.out.ext (HXA.out.trans hx5))
   clear hx5 d0 df a0 a1 a2 a3 a4 af hlta
   obtain ⟨a0, a1, a2, a3, a4, af⟩ := blk5b HBA5.out
   have hlta := blk_lt HBA5.out
   by_cases hfk : f < k
   ·have t2 : decide ((f : Int) < (k : Int)) = true := decide_eq_true (by omega)
    have HR := hI (show schemaErr s = 8 by
     have h8 : attrIErr s k = 8 := by rw [HAI.out, if_pos (by simpa using hfk)]
     rw [HE.out, firstI_hit (k := k) (by rw [h8]; omega) HNO.out n hkn]
     exact h8)
    clear HE
    go_wp2_with fail
    go_ret
    exact givesE_of (by rw [HR.out]) HX5.out
   have t2 : decide ((f : Int) < (k : Int)) = false := decide_eq_false (by omega)
   have HAK := hI (show attrIErr s k = attrErr s[k] by rw [HAI.out, if_neg (by simpa using hfk)])
   go_wp2_with fail
   refine (sattr_calls s[k] aw nw cw _ H55.out HFK.out).mono ?_
   rintro e w' ⟨rfl, hx7⟩
   have HX7 := hI (HX5.out.trans hx7)
   have HB7 := hI (hx7.blk HB5.out)
   clear hx7 a0 a1 a2 a3 a4 af hlta
   by_cases hz : attrErr s[k] = 0
   ·have tz : (attrErr s[k] != 0) = false := by simp [hz]
    have HZ := hI hz
    clear hz
    go_wp2_with fail
    go_roundw
    case rel =>
     refine ⟨k + 1, by go_num, by omega, fun j hj => ?_, HB7.out, HX7.out⟩
     by_cases e : j = k
     ·subst e; rw [HAK.out]; exact HZ.out
     exact HNO.out j (by omega)
    case measure => simp [intOf]; omega
   have tz : (attrErr s[k] != 0) = true := by simp [hz]
   have HR := hI (show schemaErr s = attrErr s[k] by
    rw [HE.out, firstI_hit (k := k) (by rw [HAK.out]; exact hz) HNO.out n hkn]
    exact HAK.out)
   clear hz
   go_wp2_with fail
   go_ret
   exact givesE_of (by rw [HR.out]) HX7.out
  have t1 : decide ((k : Int) < (n : Int)) = false := decide_eq_false (by omega)
  have HR := hI (show schemaErr s = 0 by rw [HE.out, firstI_zero n fun j hj => HNO.out j (by omega)])
  go_wp2_with fail
  go_ret
  exact givesE_of (by rw [HR.out]) HX.out
end Go.Proofs.YtefjomofjejklaaGreatDoor
