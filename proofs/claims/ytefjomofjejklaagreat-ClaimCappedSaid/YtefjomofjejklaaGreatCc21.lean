/-
  Texts of the claim, joined: RApl, RClE, RChg.
-/
import Derived.Test.YtefjomofjejklaaGreatCc20
namespace Go.Proofs.YtefjomofjejklaaGreat
set_option maxRecDepth 100000
set_option maxHeartbeats 32000000
open Go.RowKit
theorem elemAdj : ElemT 64 68 (.agg #[.int .i64 0, .int .i64 0, .int .i64 0, .int .i64 0, .int .i64 0, .int .i64 0, .int .i64 0, .int .i64 0, .int .i64 0]) 9 72 := ⟨by kernel_rfl, by kernel_rfl, rfl, by decide⟩
theorem arr9 {c : Array Value} (h : c.size = 9) : ∃ v0 v1 v2 v3 v4 v5 v6 v7 v8, c = #[v0, v1, v2, v3, v4, v5, v6, v7, v8] := by
 obtain ⟨l⟩ := c
 match l, h with
 | [v0, v1, v2, v3, v4, v5, v6, v7, v8], _ => exact ⟨v0, v1, v2, v3, v4, v5, v6, v7, v8, rfl⟩
def AplQ (n : Nat) (w : World) (e : Ending) (w' : World) : Prop := ∃ (L : List Adj) (a : OA) (c : Nat), e = .returned (.tuple #[.slice a n c, .int .i64 0]) /\ L.length = n /\ IsRows w' 9 Adj.cells L a n c /\ (∀ x ∈ L, x.net <= 1073741824) /\ Ext w w'
def AplA (n base : Nat) (w : World) (v i : Value) (wr : World) : Prop := ∃ (k : Nat) (L : List Adj), i = .int .i64 k /\ k <= n /\ L.length = k /\ wr.ownsRow base 68 9 v k (L.flatMap Adj.cells) /\ (∀ x ∈ L, x.net <= 1073741824 /\ x.s = 0) /\ Ext w wr
theorem own_snocA {w : World} {base : Nat} {v : Value} {L : List Adj} {k : Nat} {u : Adj} (h : w.ownsRow base 68 9 v (k + 1) (L.flatMap Adj.cells ++ (#[Value.int .i64 u.g, .int .i64 u.u, .int .i64 u.a, .int .i64 u.f, .int .i64 u.d, .int .i64 u.c, .int .i64 u.o, .int .i64 u.s, .int .i64 u.net] : Array Value).toList)) : w.ownsRow base 68 9 v (k + 1) ((L ++ [u]).flatMap Adj.cells) := by
 simpa [Adj.cells] using h
def ItOk (s : List Attr) (x : It) : Prop := factsAll s x.facts = true /\ (0 <= x.value /\ x.value <= 1073741824) /\ (0 <= x.sum /\ x.sum <= 1073741824) /\ (0 <= x.gross /\ x.gross <= 1073741824)
def AplB (n ni base : Nat) (ra : OA) (rc : Nat) (w : World) (i : Value) (wr : World) : Prop := ∃ (q : Nat) (L : List Adj), i = .int .i64 q /\ q <= n /\ L.length = ni /\ wr.ownsRow base 68 9 (.slice ra ni rc) ni (L.flatMap Adj.cells) /\ (∀ x ∈ L, x.net <= 1073741824 /\ -(q * 64 * 1073741824 : Int) <= x.s /\ x.s <= q * 64 * 1073741824) /\ Ext w wr
def AplC (m base : Nat) (w : World) (v i : Value) (wr : World) : Prop := ∃ (j : Nat) (N : ZN), i = .int .i64 j /\ j <= m /\ N.length = j /\ wr.ownsRow base 3 1 v j ((ints2 N).flatMap intCells) /\ (∀ x ∈ N, x <= 1073741824) /\ Ext w wr
def AplD (m q ni base : Nat) (ra : OA) (rc : Nat) (wi : World) (N : ZN) (w : World) (i : Value) (wr : World) : Prop := ∃ (j : Nat) (L : List Adj), i = .int .i64 j /\ j <= m /\ L.length = ni /\ wr.ownsRow base 68 9 (.slice ra ni rc) ni (L.flatMap Adj.cells) /\ (∀ x ∈ L, x.net <= 1073741824 /\ -((q * 64 + j) * 1073741824 : Int) <= x.s /\ x.s <= (q * 64 + j) * 1073741824) /\ Ext w wr /\ Chg N wi wr
theorem adj_at {w : World} {base n g cap : Nat} {L : List Adj} (h : w.ownsRow base 68 9 (.slice (some ⟨g, 0, none⟩) n cap) n (L.flatMap Adj.cells)) {i : Nat} (hi : i < L.length) (hn : L.length = n) :
  w.cell? ⟨g, i * 9, none⟩ = some (.int .i64 L[i].g) /\ w.cell? ⟨g, i * 9 + 1, none⟩ = some (.int .i64 L[i].u) /\ w.cell? ⟨g, i * 9 + 2, none⟩ = some (.int .i64 L[i].a) /\ w.cell? ⟨g, i * 9 + 3, none⟩ = some (.int .i64 L[i].f) /\ w.cell? ⟨g, i * 9 + 4, none⟩ = some (.int .i64 L[i].d) /\ w.cell? ⟨g, i * 9 + 5, none⟩ = some (.int .i64 L[i].c) /\ w.cell? ⟨g, i * 9 + 6, none⟩ = some (.int .i64 L[i].o) /\ w.cell? ⟨g, i * 9 + 7, none⟩ = some (.int .i64 L[i].s) /\ w.cell? ⟨g, i * 9 + 8, none⟩ = some (.int .i64 L[i].net) /\ (∀ j, w.frozen? ⟨g, j, none⟩ = false) := by
 have hc : ∀ j, j < 9 -> w.cell? ⟨g, i * 9 + j, none⟩ = L[i].cells[j]? := fun j hj => by
  rw [h.cellAt (i * 9 + j) (by omega)]
  have := flatMap_at Adj.cells 9 (fun _ => rfl) L i hi j (by simpa [Adj.cells] using hj)
  rw [this, List.getElem?_eq_getElem (by simpa [Adj.cells] using hj)]
 exact ⟨hc 0 (by omega), hc 1 (by omega), hc 2 (by omega), hc 3 (by omega), hc 4 (by omega), hc 5 (by omega), hc 6 (by omega), hc 7 (by omega), hc 8 (by omega), h.frozenAt⟩
theorem cells_set9 : (L : List Adj) -> (k : Nat) -> (u : Adj) -> k < L.length -> (((((((((L.flatMap Adj.cells).set (k * 9) (.int .i64 u.g)).set (k * 9 + 1) (.int .i64 u.u)).set (k * 9 + 2) (.int .i64 u.a)).set (k * 9 + 3) (.int .i64 u.f)).set (k * 9 + 4) (.int .i64 u.d)).set (k * 9 + 5) (.int .i64 u.c)).set (k * 9 + 6) (.int .i64 u.o)).set (k * 9 + 7) (.int .i64 u.s)).set (k * 9 + 8) (.int .i64 u.net) = (L.set k u).flatMap Adj.cells
 | [], k, _, hk => by simp at hk
 | v :: r, 0, u, _ => by simp [Adj.cells]
 | v :: r, k + 1, u, hk => by
  have ih := cells_set9 r k u (by simpa using hk)
  have hv : v.cells.length = 9 := rfl
  rw [List.flatMap_cons, List.set_cons_succ, List.flatMap_cons, <- ih]
  have hs : ∀ (j : Nat) (z : Value) (xs : List Value), (v.cells ++ xs).set ((k + 1) * 9 + j) z = v.cells ++ xs.set (k * 9 + j) z := fun j z xs => by
   rw [List.set_append_right _ _ (by omega)]
   congr 2; omega
  have hs0 := fun z xs => hs 0 z xs
  simp only [Nat.add_zero] at hs0
  simp only [hs, hs0]
def putA (w : World) (g o : Nat) (u : Adj) : World := ((((((((w.setCell ⟨g, o, none⟩ (.int .i64 u.g)).setCell ⟨g, o + 1, none⟩ (.int .i64 u.u)).setCell ⟨g, o + 2, none⟩ (.int .i64 u.a)).setCell ⟨g, o + 3, none⟩ (.int .i64 u.f)).setCell ⟨g, o + 4, none⟩ (.int .i64 u.d)).setCell ⟨g, o + 5, none⟩ (.int .i64 u.c)).setCell ⟨g, o + 6, none⟩ (.int .i64 u.o)).setCell ⟨g, o + 7, none⟩ (.int .i64 u.s)).setCell ⟨g, o + 8, none⟩ (.int .i64 u.net)
theorem putA_own {w : World} {base n g cap k : Nat} {L : List Adj} (h : w.ownsRow base 68 9 (.slice (some ⟨g, 0, none⟩) n cap) n (L.flatMap Adj.cells)) (hk : k < L.length) (u : Adj) : (putA w g (k * 9) u).ownsRow base 68 9 (.slice (some ⟨g, 0, none⟩) n cap) n ((L.set k u).flatMap Adj.cells) := by
 have := ((((((((h.stored (k * 9) (.int .i64 u.g)).1.stored (k * 9 + 1) (.int .i64 u.u)).1.stored (k * 9 + 2) (.int .i64 u.a)).1.stored (k * 9 + 3) (.int .i64 u.f)).1.stored (k * 9 + 4) (.int .i64 u.d)).1.stored (k * 9 + 5) (.int .i64 u.c)).1.stored (k * 9 + 6) (.int .i64 u.o)).1.stored (k * 9 + 7) (.int .i64 u.s)).1.stored (k * 9 + 8) (.int .i64 u.net)
 rw [cells_set9 L k u hk] at this
 exact this.1
theorem putA_chg (w : World) (g o : Nat) (u : Adj) : Chg [g] w (putA w g o u) := by
 unfold putA
 repeat (with_reducible (refine Chg.setCell ?_ ?_ _))
 exact Chg.refl _ _
 all_goals exact Or.inl (by simp)
theorem rApply_calls {s : List Attr} {l : List Cla} {its : List It} (hc : (clausesErr s l).2 = 0) (hits : ∀ x ∈ its, ItOk s x) (hil : its.length <= 64) (hsf : ∀ x ∈ s, x.fits) {sa : OA} {sn sc : Nat} {a : OA} {n c : Nat} {ia : OA} {ni : Nat} (ic : Nat) (hfit : ∀ x ∈ l, x.fit) (w : World)
  (hs : IsSchema w s (.agg #[.slice sa sn sc])) (hl : IsClas w l a n c) (hi : IsIts w its ia ni ic) :
  Calls Tryz.prog 24 #[.agg #[.slice sa sn sc], .slice a n c, .slice ia ni ic] w (AplQ ni w) := by
 have hck := chk_of hc
 have hsl : s.length <= 1000000000000000 := by have := hs.parts; obtain ⟨_, _, _, e, h1, _⟩ := this; have := (schema_attrs hck.sch).2.1; omega
 have hn := hl.len
 have hl100 := hck.len
 have HCL := hI (fun W (hW : Ext w W) => rClauses_calls s l _ a n c W (hs.ext hW) hsf hsl (hl.ext hW) (by omega) hfit)
 have HFA := hI (fun (k : Nat) (hk : k < its.length) (fa : OA) (fn fc : Nat) W (hW : Ext w W) (hf : IsIntF W its[k].facts fa fn) => show Calls Tryz.prog 52 #[.agg #[.slice sa sn sc], .slice fa fn fc] W (GivesE (.bool true) W) from by
  have h := rFacts_calls s _ its[k].facts fa fn fc W (hs.ext hW) hsf hsl hf
  rwa [show factsB s its[k].facts = true by unfold factsB; rw [hck.sch, (hits _ (List.getElem_mem hk)).1]; rfl] at h)
 have HVE := hI (fun (k : Nat) (hk : k < its.length) (fa : OA) (fn fc : Nat) W (hW : Ext w W) (hf : IsIntF W its[k].facts fa fn) => show Calls Tryz.prog 54 #[.agg #[.slice sa sn sc], .slice a n c, .slice fa fn fc] W (GivesE (.agg (verB (vlF s l its[k].facts) l).cells) W) from rVerdict_calls (verIn_of hc (hits _ (List.getElem_mem hk)).1 hsf fc (hs.ext hW) (hl.ext hW) hf) W (Ext.refl W))
 have HAD := hI (fun (k : Nat) (hk : k < its.length) (ver lim ded fra coi : Int) (avg : Bool) (hD : verB (vlF s l its[k].facts) l = ⟨ver, lim, ded, fra, coi, avg⟩) (xa : OA) (xn xc : Nat) W => show Calls Tryz.prog 53 #[.agg #[.int .i64 ver, .int .i64 lim, .int .i64 ded, .int .i64 fra, .int .i64 coi, .bool avg], .agg #[.slice xa xn xc, .int .i64 its[k].value, .int .i64 its[k].sum, .int .i64 its[k].gross]] W (AdjQ W) from by
  have hok := verB_ok hc (vlF s l its[k].facts)
  rw [hD] at hok
  obtain ⟨-, ⟨v1, v2⟩, ⟨s1, s2⟩, ⟨g1, g2⟩⟩ := hits _ (List.getElem_mem hk)
  have hnn : 0 <= ded /\ 0 <= fra /\ 0 <= coi := by
   rcases hok with ⟨_, _, h1, h2, h3⟩ | ⟨_, _, h⟩
   ·exact ⟨h1.1, h2.1, h3.1⟩
   injection h with _ _ h1 h2 h3; omega
  have h := adjust_calls ver lim ded.toNat fra.toNat coi.toNat avg xa xn xc its[k].value.toNat its[k].sum.toNat its[k].gross.toNat W (by rw [Int.toNat_of_nonneg hnn.1, Int.toNat_of_nonneg hnn.2.1, Int.toNat_of_nonneg hnn.2.2]; exact hok) (by omega) (by omega) (by omega)
  rwa [Int.toNat_of_nonneg hnn.1, Int.toNat_of_nonneg hnn.2.1, Int.toNat_of_nonneg hnn.2.2, Int.toNat_of_nonneg v1, Int.toNat_of_nonneg s1, Int.toNat_of_nonneg g1] at h)
 have HMS := hI (fun (q : Nat) (hq : q < l.length) (hqk : l[q].kind = 10) W (hW : Ext w W) => rMembers_calls hc (fun x hx => (hits x hx).1) hil hsf ic q hq hqk hfit W (hs.ext hW) (hl.ext hW) (hi.ext hW))
 have HCK := hI (fun (q : Nat) (hq : q < l.length) => amt_in (claK_of hc _ (List.getElem_mem hq)))
 have HZ := hI hc
 have HL := hI hl
 have HI := hI hi
 have HNI := hI hi.len
 have HNL := hI hn
 obtain ⟨wa, hwa⟩ : ∃ wa, wa = w.alloc (.cells #[.slice sa sn sc] 25) := ⟨_, rfl⟩
 have HX := hI (show Ext w wa by rw [hwa]; exact (Ext.refl _).alloc _)
 have H0 := hI (show wa.heap[w.heap.size]? = some (.cells #[.slice sa sn sc] 25 (0, 0)) by rw [hwa]; exact alloc_new w _)
 obtain ⟨E, hE⟩ : ∃ E, E = clausesErr s l := ⟨_, rfl⟩
 rw [<- hE] at HCL HZ
 obtain ⟨e1, e2⟩ := E
 have he2 : e2 = 0 := HZ.out
 subst he2
 unfold clsV at HCL
 clear hc hits hsf hs hl hi hck hsl hn hE hfit
 obtain ⟨s0, sf⟩ := blk1 H0.out
 have t3 : decide ((64 : Int) < (ni : Int)) = false := decide_eq_false (by have := HNI.out; omega)
 go_enter Tryz.func24, Tryz.ntmps24
 go_upto_region 1 with fail
 rw [<- hwa]
 clear hwa
 go_wp2_with fail
 refine (HCL.out wa HX.out).mono ?_
 rintro r w1 ⟨rfl, hx1⟩
 have HX1 := hI (HX.out.trans hx1)
 have K0 := hI (hx1.blk H0.out)
 clear hx1 s0 sf HCL H0 HX
 go_wp2_with fail
 go_loopw [10, 11] (AplA ni w1.heap.size w1) (fun _ i _ => ni - (intOf i).toNat)
 case atStart => exact ⟨0, [], rfl, Nat.zero_le _, rfl, ⟨rfl, Or.inl ⟨rfl, rfl⟩⟩, fun x hx => by simp at hx, Ext.refl _⟩
 case round =>
  obtain ⟨k, L, rfl, hk, hlk, hown, hall, hx⟩ := hrel
  obtain ⟨wo, rfl⟩ : ∃ wo : World, wo = wr := ⟨_, rfl⟩
  have HLK := hI hlk
  have HALL := hI hall
  have HOWN := hI hown
  have HX := hI hx
  have HXW := hI (HX1.out.trans hx)
  obtain ⟨s0, sf⟩ := blk1 (hx.blk K0.out)
  clear hlk hall hown hx
  by_cases hkn : k < ni
  ·have hkl : k < its.length := by have := HNI.out; omega
   have t4 : decide ((k : Int) < (ni : Int)) = true := decide_eq_true (by omega)
   obtain ⟨ib, io, u, rfl, hux, hfi, i0, i1, i2, i3⟩ := (HI.out.ext HXW.out).at hkl
   have HFW := hI (fun W (hW : Ext wo W) => HFA.out k hkl u.a u.n u.c W (HXW.out.trans hW) (hfi.ext hW))
   have HVW := hI (fun W (hW : Ext wo W) => HVE.out k hkl u.a u.n u.c W (HXW.out.trans hW) (hfi.ext hW))
   obtain ⟨D, hD⟩ : ∃ D, D = verB (vlF s l its[k].facts) l := ⟨_, rfl⟩
   rw [<- hD] at HVW
   obtain ⟨ver, lim, ded, fra, coi, avg⟩ := D
   have HAW := hI (HAD.out k hkl ver lim ded fra coi avg hD.symm u.a u.n u.c)
   unfold Dec.cells at HVW
   clear hD hfi hux HFA HVE HAD
   go_wp2_with fail
   have S0 := win_cell s0
   have I0 := win_cell i0
   refine chn_ext 8 ?_
   repeat (refine chn_plain ?_; intro K hK; go_big_quiet_op; go_big_quiet_on)
   refine chn_ge HFW.out ?_
   intro K hK; go_simp; go_big_quiet_on
   repeat (refine chn_plain ?_; intro K hK; go_big_quiet_op; go_big_quiet_on)
   refine chn_nil fun w2 hx2 _ _ => ?_
   have HX2 := hI hx2
   have HXO := hI (HX.out.trans hx2)
   have HOWN2 := hI (owns_ext HOWN.out hx2)
   have T0 := win_cell (hx2.cell s0)
   have J0 := win_cell (hx2.cell i0)
   have J1 := win_cell (hx2.cell i1)
   have J2 := win_cell (hx2.cell i2)
   have J3 := win_cell (hx2.cell i3)
   clear hx2 i0 i1 i2 i3 S0 I0 s0 sf
   go_wp2_with fail
   refine chn_shp 19 ?_
   repeat (refine chn_plain ?_; intro K hK; go_big_quiet_op; go_big_quiet_on)
   refine chn_ge (fun W hW => HVW.out W (HX2.out.trans hW)) ?_
   intro K hK; go_simp; go_big_quiet_on
   repeat (refine chn_plain ?_; intro K hK; go_big_quiet_op; go_big_quiet_on)
   refine chn_call (γ := {x : Adj // Hid (x.net <= 1073741824 /\ x.s = 0)}) (fun x => .tuple #[.agg x.1.cells.toArray, .int .i64 0]) (fun _ _ => True) (fun W hW _ _ => ?_) (fun _ _ _ _ h => h) ?_ ⟨⟨⟨0, 0, 0, 0, 0, 0, 0, 0, 0⟩, Lib.hid ⟨by decide, rfl⟩⟩⟩
   ·unfold GivesOp
    go_simp
    refine (HAW.out W).mono ?_
    rintro e w5 ⟨x, rfl, h1, h2, hx5⟩
    exact ⟨_, rfl, hx5.shp _, ⟨x, Lib.hid ⟨h1, h2⟩⟩, rfl, trivial⟩
   rintro ⟨x, HXP⟩ K hK
   unfold Adj.cells at *
   go_simp; go_big_quiet_on
   repeat (refine chn_plain ?_; intro K hK; go_big_quiet_op; go_big_quiet_on)
   refine chn_new (fun g => .pointer (some ⟨g, 0, none⟩)) (fun g W => w2.heap.size <= g /\ ∃ c, W.heap[g]? = some (.cells c 68 (0, 0)) /\ c.size = 9) (fun W hW => ?_) (fun g W W' h ⟨k1, c, k2, k3⟩ => ?_) ?_
   ·unfold GivesOp; go_simp
    exact ⟨(Ext.refl W).alloc _, W.heap.size, rfl, hW.size, _, alloc_new W _, rfl⟩
   ·obtain ⟨c', e1, e2⟩ := (h (Nat.le_trans k1 (Nat.le_of_lt (blk_lt k2)))).2 g c _ k1 k2
    exact ⟨k1, c', e1, e2.trans k3⟩
   intro y K hK; go_simp; go_big_quiet_on
   refine chn_known undef (fun W => w2.heap.size <= y /\ W.heap[y]? = some (.cells #[.int .i64 x.g, .int .i64 x.u, .int .i64 x.a, .int .i64 x.f, .int .i64 x.d, .int .i64 x.c, .int .i64 x.o, .int .i64 x.s, .int .i64 x.net] 68 (0, 0))) (fun W hW _ ⟨_, hyl, c, hyb, hcs⟩ => ?_) (fun W W' h k => ⟨k.1, h.blk k.2⟩) ?_
   ·obtain ⟨v0, v1, v2, v3, v4, v5, v6, v7, v8, rfl⟩ := arr9 hcs
    obtain ⟨z0, z1, z2, z3, z4, z5, z6, z7, z8, zf⟩ := blk9a hyb
    have hlt := blk_lt hyb
    have HP := hI (put9_blk hyb (v0 := .int .i64 x.g) (v1 := .int .i64 x.u) (v2 := .int .i64 x.a) (v3 := .int .i64 x.f) (v4 := .int .i64 x.d) (v5 := .int .i64 x.c) (v6 := .int .i64 x.o) (v7 := .int .i64 x.s) (v8 := .int .i64 x.net))
    clear hyb
    unfold GivesOp; go_simp
    exact ⟨(((((((((Shp.refl _ W).set hyl _ _).set hyl _ _).set hyl _ _).set hyl _ _).set hyl _ _).set hyl _ _).set hyl _ _).set hyl _ _).set hyl _ _, rfl, HP.out⟩
   intro K hK; go_simp; go_big_quiet_on
   repeat (refine chn_plain ?_; intro K hK; go_big_quiet_op; go_big_quiet_on)
   refine chn_nil fun w4 hx3 hy _ => ?_
   obtain ⟨hyl, hb4⟩ := hy
   have HX4 := hI (HXO.out.trans hx3)
   have HOWN4 := hI (owns_ext HOWN2.out hx3)
   clear hx3 T0 J0 J1 J2 J3 HXO HOWN2 HFW HVW HAW
   obtain ⟨z0, z1, z2, z3, z4, z5, z6, z7, z8, zf⟩ := blk9a hb4
   have hlt4 := blk_lt hb4
   have hni := HNI.out
   go_upto_region 15 with fail
   clear hni
   go_wp2_with (at_builtin; refine wpList_append_at elemAdj rfl _ _ rfl w1.heap.size _ k _ rfl HOWN4.out _ 1 1 rfl ?f0 rfl ?f1 ?f2 ?f3 ?f4 ?_)
   case f0 => simp
   case f1 => simp [Value.oneCell']
   case f2 => have := HNI.out; unfold maxLen; omega
   case f3 => have := HNI.out; omega
   case f4 => have := HX4.out.size; omega
   intro v8 w8 hown8 hc8 hw8
   have HO8 := hI (own_snocA hown8)
   have HX8 := hI (hc8.ext HX4.out (fun y hy => (HOWN4.out.lt y (mem_rowOf.1 hy)).1))
   obtain ⟨a8, c8, hv8⟩ := owns_formG hown8
   subst hv8
   clear hown8 hc8 hw8
   go_wp2_with fail
   go_roundw
   case rel => exact ⟨k + 1, L ++ [x], by go_num, by omega, by have := HLK.out; simp [this], HO8.out, fun z hz => by
    rcases List.mem_append.1 hz with h | h
    ·exact HALL.out z h
    simp only [List.mem_singleton] at h; subst h; exact HXP.out, HX8.out⟩
   case measure => simp [intOf]; omega
  have t4 : decide ((k : Int) < (ni : Int)) = false := decide_eq_false (by omega)
  obtain rfl : k = ni := by omega
  obtain ⟨ra, rc, hv⟩ := owns_formG HOWN.out
  subst hv
  go_wp2_with fail
  clear s0 sf
  go_loopw [14] (AplB n k w1.heap.size ra rc w1) (fun i _ => n - (intOf i).toNat)
  case atStart => exact ⟨0, L, rfl, Nat.zero_le _, HLK.out, HOWN.out, fun x hx => ⟨(HALL.out x hx).1, by rw [(HALL.out x hx).2]; omega, by rw [(HALL.out x hx).2]; omega⟩, HX.out⟩
  case round =>
   obtain ⟨q, LB, rfl, hq, hl2, hown2, hall2, hx2⟩ := hrel
   obtain ⟨w9, rfl⟩ : ∃ w9 : World, w9 = wr := ⟨_, rfl⟩
   have HLB2 := hI hl2
   have HOWN2 := hI hown2
   have HALL2 := hI hall2
   have HX2 := hI (HX1.out.trans hx2)
   have HXO := hI hx2
   have HH0 := hI (hx2.blk K0.out)
   clear hl2 hown2 hall2 hx2
   by_cases hqn : q < n
   ·have hql : q < l.length := by have := HNL.out; omega
    have t5 : decide ((q : Int) < (n : Int)) = true := decide_eq_true (by omega)
    obtain ⟨b, off, v, rfl, hcl, hrow⟩ := (HL.out.ext HX2.out).at hql
    obtain ⟨c0, -, -, -, -, -, -, -, -, c9⟩ := hrow.ten
    have HVK := hI hcl.1
    have HVA := hI (show v.amount = l[q].amount from hcl.2.2.2.2.2.2.2)
    clear hrow hcl
    by_cases hvk : v.kind = 10
    ·rw [hvk] at c0
     have HMQ := hI (HMS.out q hql (by rw [<- HVK.out]; exact hvk) w9 HX2.out)
     obtain ⟨who, hwho⟩ : ∃ who, who = memK s l l[q] its its.length := ⟨_, rfl⟩
     have HWL := hI (show who.length <= 64 /\ ∀ x ∈ who, x < k by
      rw [hwho]
      refine ⟨by have := memK_len s l l[q] its its.length; omega, fun x hx => ?_⟩
      unfold memK at hx
      have := List.mem_range.1 (List.mem_filter.1 hx).1
      have := HNI.out; omega)
     obtain ⟨B, hB⟩ : ∃ B : Nat, v.amount = (B : Int) := ⟨v.amount.toNat, by have := (HCK.out q hql).1; have := HVA.out; omega⟩
     have HB := hI (show B <= 1073741824 by
      have h1 := (HCK.out q hql).2
      rw [<- HVK.out, hvk, <- HVA.out, hB] at h1
      simp [mostOf] at h1
      omega)
     rw [hB] at c9
     rw [<- hwho] at HMQ
     unfold MemsQ at HMQ
     obtain ⟨s0, sf⟩ := blk1 HH0.out
     clear hwho hB hvk HVK HVA HMS HCK
     go_wp2_with fail
     refine HMQ.out.mono ?_
     rintro e w10 ⟨wa2, wc2, rfl, hwi, hx10, hwf⟩
     have HWI := hI hwi
     have HWF := hI hwf
     have HX10 := hI (HX2.out.trans hx10)
     have HXO10 := hI (HXO.out.trans hx10)
     have HX910 := hI hx10.size
     have HOWN10 := hI (owns_ext HOWN2.out hx10)
     have e9 := hx10.cell c9
     clear hwi hx10 hwf c0 c9 s0 sf HMQ
     go_upto_region 22 with fail
     go_wp2_with fail
     go_loopw [17, 18] (AplC who.length w10.heap.size w10) (fun _ i _ => who.length - (intOf i).toNat)
     case atStart => exact ⟨0, [], rfl, Nat.zero_le _, rfl, ⟨rfl, Or.inl ⟨rfl, rfl⟩⟩, fun x hx => by simp at hx, Ext.refl _⟩
     case round =>
      obtain ⟨j, N, rfl, hj, hnj, hown3, hN, hx3⟩ := hrel
      obtain ⟨w11, rfl⟩ : ∃ w11 : World, w11 = wr := ⟨_, rfl⟩
      have HNJ := hI hnj
      have HOWN3 := hI hown3
      have HN := hI hN
      have HX3 := hI hx3
      have hzz := hx3.size
      clear hnj hown3 hN hx3
      by_cases hjw : j < who.length
      ·have t6 : decide ((j : Int) < (who.length : Int)) = true := decide_eq_true (by omega)
       obtain ⟨wb, wo2, rfl, d0⟩ := (HWI.out.ext HX3.out).2 j (by simpa [ints2] using hjw)
       obtain ⟨z, hz⟩ : ∃ z, z = who[j] := ⟨_, rfl⟩
       have hwl := HWL.out.1
       have hzk : z < k := by rw [hz]; exact HWL.out.2 _ (List.getElem_mem hjw)
       rw [show (ints2 who)[j]'(by simpa [ints2] using hjw) = (z : Int) by rw [hz]; simp [ints2]] at d0
       obtain ⟨g, cap, hv, -, -⟩ := HOWN10.out.form (by omega)
       injection hv with hv1 _ hv3
       subst hv1 hv3
       have hzl : z < LB.length := by rw [HLB2.out]; exact hzk
       obtain ⟨-, -, -, -, -, -, -, -, g8, -⟩ := adj_at (owns_ext HOWN10.out HX3.out) hzl HLB2.out
       obtain ⟨nt, hnt⟩ : ∃ nt, nt = LB[z].net := ⟨_, rfl⟩
       have HNT := hI (show nt <= 1073741824 by rw [hnt]; exact (HALL2.out _ (List.getElem_mem hzl)).1)
       rw [<- hnt] at g8
       clear hz hnt
       go_wp2_with (at_builtin; refine wpList_append_at elemInts rfl _ _ rfl w10.heap.size _ j _ rfl HOWN3.out _ 1 1 rfl ?p0 rfl ?p1 ?p2 ?p3 ?p4 ?_)
       case p0 => simp
       case p1 => simp [Value.oneCell']
       case p2 => have := HWL.out.1; unfold maxLen; omega
       case p3 => have := HWL.out.1; omega
       intro v8 w8 hown8 hc8 hw8
       have HO8 := hI (own_snoc (f := ints2 N) (by simp [ints2, HNJ.out]) hown8)
       have HX8 := hI (hc8.ext HX3.out (fun y hy => (HOWN3.out.lt y (mem_rowOf.1 hy)).1))
       obtain ⟨a8, c8, hv8⟩ := owns_formG hown8
       subst hv8
       clear hown8 hc8 hw8
       go_wp2_with fail
       go_roundw
       case rel => exact ⟨j + 1, N ++ [nt], by go_num, by omega, by have := HNJ.out; simp [this], by have := HO8.out; simp only [ints2, List.map_append, List.length_append, List.length_map, HNJ.out] at this ⊢; exact this, fun x hx => by
        rcases List.mem_append.1 hx with h | h
        ·exact HN.out x h
        simp only [List.mem_singleton] at h; rw [h]; exact HNT.out, HX8.out⟩
       case measure => simp [intOf]; omega
      have t6 : decide ((j : Int) < (who.length : Int)) = false := decide_eq_false (by omega)
      obtain rfl : j = who.length := by omega
      obtain ⟨na, nc, hv⟩ := owns_formG HOWN3.out
      subst hv
      have HRD := hI (fun W (hW : Ext w11 W) => reduce_calls 1073741824 B N na who.length nc W (by
       obtain ⟨a', c', e, h⟩ := ints_own (M := []) (f := ints2 N) (by have := HOWN3.out; rwa [show (ints2 N).length = who.length by simp [ints2, HNJ.out]]) (fun k _ => by simp)
       injection e with e1 e2 e3
       subst e1
       rw [show (ints2 N).length = who.length by simp [ints2, HNJ.out]] at h
       exact (h.mono (mask_sub _ _)).ext hW) HN.out HWL.out.1 HB.out (by omega))
      have e9 := HX3.out.cell e9
      go_wp2_with fail
      refine (HRD.out w11 (Ext.refl _)).mono ?_
      rintro e w12 ⟨PL, pa, pc, rfl, hpl, hpm, hpi, hx12, hpf⟩
      have HPF := hI (show ∀ y, (Value.slice pa who.length pc).ownBlock = some y -> w9.heap.size <= y from fun y hy => Nat.le_trans (Nat.le_trans HX910.out HX3.out.size) (hpf y hy))
      have HPM := hI hpm
      have HPL := hI hpl
      have HX12 := hI ((HX10.out.trans HX3.out).trans hx12)
      have HXO12 := hI ((HXO10.out.trans HX3.out).trans hx12)
      have HWI12 := hI ((HWI.out.ext HX3.out).ext hx12)
      have HPI12 := hI hpi
      have HOWN12 := hI (owns_ext (owns_ext HOWN10.out HX3.out) hx12)
      clear hpl hpm hpi hpf hx12 e9 HRD HOWN10 HOWN3
      go_wp2_with fail
      go_loopw [21] (AplD who.length q k w1.heap.size ra rc w12 (rowOf (.slice ra k rc)) w1) (fun i _ => who.length - (intOf i).toNat)
      case atStart => exact ⟨0, LB, rfl, Nat.zero_le _, HLB2.out, HOWN12.out, fun x hx => by have := HALL2.out x hx; omega, HXO12.out, Chg.refl _ _⟩
      case round =>
       obtain ⟨j, LC, rfl, hj4, hlc, hown4, hall4, hx4, hch4⟩ := hrel
       obtain ⟨w13, rfl⟩ : ∃ w13 : World, w13 = wr := ⟨_, rfl⟩
       have HLC := hI hlc
       have HOWN4 := hI hown4
       have HALL4 := hI hall4
       have HX4 := hI hx4
       have HCH4 := hI hch4
       clear hlc hown4 hall4 hx4 hch4
       by_cases hjw : j < who.length
       ·have t7 : decide ((j : Int) < (who.length : Int)) = true := decide_eq_true (by omega)
        have hwl := HWL.out.1
        obtain ⟨wb, wo2, rfl, d0⟩ := HWI12.out.2 j (by simpa [ints2] using hjw)
        obtain ⟨pb, po, rfl, p0⟩ := HPI12.out.2 j (by simpa [ints2, HPL.out] using hjw)
        obtain ⟨z, hz⟩ : ∃ z, z = who[j] := ⟨_, rfl⟩
        obtain ⟨p, hp⟩ : ∃ p, p = PL[j]'(by rw [HPL.out]; exact hjw) := ⟨_, rfl⟩
        have hpm : p <= 1073741824 := by rw [hp]; exact HPM.out _ (List.getElem_mem _)
        have hzk : z < k := by rw [hz]; exact HWL.out.2 _ (List.getElem_mem hjw)
        rw [show (ints2 who)[j]'(by simpa [ints2] using hjw) = (z : Int) by rw [hz]; simp [ints2]] at d0
        rw [show (ints2 PL)[j]'(by simpa [ints2, HPL.out] using hjw) = (p : Int) by rw [hp]; simp [ints2]] at p0
        obtain ⟨g, cap, hv, hgb, -⟩ := HOWN4.out.form (by omega)
        injection hv with hv1 _ hv3
        subst hv1 hv3
        have hgw : g < w9.heap.size := (HOWN2.out.lt g rfl).2
        have d0 := HCH4.out.cell d0 (by have := HWF.out wb rfl; simp [rowOf, Value.ownBlock]; omega)
        have p0 := HCH4.out.cell p0 (by have := HPF.out pb rfl; simp [rowOf, Value.ownBlock]; omega)
        have hzl : z < LC.length := by rw [HLC.out]; exact hzk
        obtain ⟨g0, g1, g2, g3, g4, g5, g6, g7, g8, gf⟩ := adj_at HOWN4.out hzl HLC.out
        obtain ⟨x, hx⟩ : ∃ x, x = LC[z] := ⟨_, rfl⟩
        have HXX := hI (show x.net <= 1073741824 /\ -((q * 64 + j) * 1073741824 : Int) <= x.s /\ x.s <= (q * 64 + j) * 1073741824 by rw [hx]; exact HALL4.out _ (List.getElem_mem hzl))
        rw [<- hx] at g0 g1 g2 g3 g4 g5 g6 g7 g8
        obtain ⟨xg, xu, xa, xf, xd, xc, xo, xs, xn⟩ := x
        dsimp only at g0 g1 g2 g3 g4 g5 g6 g7 g8
        have hs0 : -10000000000000 <= xs := by have := HXX.out.2.1; dsimp only at this; omega
        have hs1 : xs <= 10000000000000 := by have := HXX.out.2.2; dsimp only at this; omega
        have hn1 : xn <= 1073741824 := HXX.out.1
        clear hz hp hx
        go_upto_region 31 with fail
        have hgl : g < w13.heap.size := (HOWN4.out.lt g rfl).2
        obtain ⟨y, hy⟩ : ∃ y, y = w13.heap.size := ⟨_, rfl⟩
        obtain ⟨w14, hw14⟩ : ∃ w14, w14 = w13.alloc (.cells #[.int .i64 xg, .int .i64 xu, .int .i64 xa, .int .i64 xf, .int .i64 xd, .int .i64 xc, .int .i64 xo, .int .i64 xs, .int .i64 xn] 68) := ⟨_, rfl⟩
        have hb14 : w14.heap[y]? = some (.cells #[.int .i64 xg, .int .i64 xu, .int .i64 xa, .int .i64 xf, .int .i64 xd, .int .i64 xc, .int .i64 xo, .int .i64 xs, .int .i64 xn] 68 (0, 0)) := by rw [hw14, hy]; exact alloc_new w13 _
        have hx14 : Ext w13 w14 := by rw [hw14]; exact (Ext.refl _).alloc _
        rw [<- hw14, <- hy]
        have hgy : g ≠ y := by omega
        have HGY := hI (show g ≠ y /\ w13.heap.size <= y /\ w1.heap.size <= g from ⟨hgy, by omega, hgb⟩)
        have HX14 := hI hx14
        have HB14 := hI hb14
        have q0 := win_cell (hx14.cell p0)
        obtain ⟨z0, z1, z2, z3, z4, z5, z6, z7, z8, zf⟩ := blk9a hb14
        have Z7 := win_cell z7
        have Z8 := win_cell z8
        have hlt := blk_lt hb14
        clear hw14 hy hb14 hx14 hgy z0 z1 z2 z3 z4 z5 z6 z7 z8 zf
        refine chn_ext 11 ?_
        repeat (refine chn_plain ?_; intro K hK; go_big_quiet_op; go_big_quiet_on)
        refine chn_tail fun w15 hx15 _ _ => ?_
        have HB15 := hI (hx15.blk HB14.out)
        have HX15 := hI (HX14.out.trans hx15)
        obtain ⟨z0, z1, z2, z3, z4, z5, z6, z7, z8, zf⟩ := blk9a HB15.out
        have hlt5 := blk_lt HB15.out
        clear hx15 q0 Z7 Z8
        go_upto_region 32 with fail
        obtain ⟨w16, hw16⟩ : ∃ w16, w16 = w15.setCell ⟨y, 7, none⟩ (.int .i64 (xs + xn - p)) := ⟨_, rfl⟩
        have HX16 := hI (show Ext w13 w16 by rw [hw16]; exact HX15.out.setAbove HGY.out.2.1 _)
        have HB16 := hI (show w16.heap[y]? = some (.cells #[.int .i64 xg, .int .i64 xu, .int .i64 xa, .int .i64 xf, .int .i64 xd, .int .i64 xc, .int .i64 xo, .int .i64 (xs + xn - p), .int .i64 xn] 68 (0, 0)) by rw [hw16, heap_setCell_same _ _ _ _ _ _ HB15.out]; rfl)
        rw [<- hw16]
        clear hw16 z0 z1 z2 z3 z4 z5 z6 z7 z8 zf hlt5
        obtain ⟨z0, z1, z2, z3, z4, z5, z6, z7, z8, zf⟩ := blk9a HB16.out
        have q0 := HX16.out.cell p0
        have hlt6 := blk_lt HB16.out
        go_upto_region 33 with fail
        obtain ⟨w17, hw17⟩ : ∃ w17, w17 = w16.setCell ⟨y, 8, none⟩ (.int .i64 p) := ⟨_, rfl⟩
        have HX17 := hI (show Ext w13 w17 by rw [hw17]; exact HX16.out.setAbove HGY.out.2.1 _)
        have HB17 := hI (show w17.heap[y]? = some (.cells #[.int .i64 xg, .int .i64 xu, .int .i64 xa, .int .i64 xf, .int .i64 xd, .int .i64 xc, .int .i64 xo, .int .i64 (xs + xn - p), .int .i64 p] 68 (0, 0)) by rw [hw17, heap_setCell_same _ _ _ _ _ _ HB16.out]; rfl)
        rw [<- hw17]
        clear hw17 z0 z1 z2 z3 z4 z5 z6 z7 z8 zf hlt6 q0
        obtain ⟨sv, hsv⟩ : ∃ sv, sv = xs + xn - p := ⟨_, rfl⟩
        rw [<- hsv] at HB17
        have HSV := hI hsv
        obtain ⟨z0, z1, z2, z3, z4, z5, z6, z7, z8, zf⟩ := blk9a HB17.out
        have Z0 := win_cell z0
        have Z1 := win_cell z1
        have Z2 := win_cell z2
        have Z3 := win_cell z3
        have Z4 := win_cell z4
        have Z5 := win_cell z5
        have Z6 := win_cell z6
        have Z7 := win_cell z7
        have Z8 := win_cell z8
        have q0 := win_cell (HX17.out.cell d0)
        clear hsv z0 z1 z2 z3 z4 z5 z6 z7 z8 zf
        refine chn_ext 7 ?_
        repeat (refine chn_plain ?_; intro K hK; go_big_quiet_op; go_big_quiet_on)
        refine chn_tail fun w18 hx18 _ _ => ?_
        have HX18 := hI (HX17.out.trans hx18)
        have HO18 := hI (owns_ext HOWN4.out HX18.out)
        clear hx18 q0 Z0 Z1 Z2 Z3 Z4 Z5 Z6 Z7 Z8 g0 g1 g2 g3 g4 g5 g6 g7 g8 gf
        obtain ⟨g0, g1, g2, g3, g4, g5, g6, g7, g8, gf⟩ := adj_at HO18.out hzl HLC.out
        have hlt8 : g < w18.heap.size := (HO18.out.lt g rfl).2
        go_upto_region 29 with fail
        obtain ⟨w19, hw19⟩ : ∃ w19, w19 = putA w18 g (z * 9) ⟨xg, xu, xa, xf, xd, xc, xo, sv, p⟩ := ⟨_, rfl⟩
        have HO19 := hI (show w19.ownsRow _ _ _ _ _ _ from by rw [hw19]; exact putA_own HO18.out hzl ⟨xg, xu, xa, xf, xd, xc, xo, sv, p⟩)
        have hc19 : Chg [g] w18 w19 := by rw [hw19]; exact putA_chg _ _ _ _
        have HX19 := hI (hc19.ext (HX4.out.trans HX18.out) (by have := HGY.out.2.2; simpa using this))
        have HC19 := hI (show Chg (rowOf (.slice (some ⟨g, 0, none⟩) k rc)) w12 w19 from (HCH4.out.then (HX18.out.chg _)).then (by simpa [rowOf, Value.ownBlock] using hc19))
        unfold putA at hw19
        dsimp only at hw19
        rw [<- hw19]
        clear hw19 hc19 g0 g1 g2 g3 g4 g5 g6 g7 g8 gf hlt8
        go_wp2_with fail
        go_roundw
        case rel => exact ⟨j + 1, LC.set z ⟨xg, xu, xa, xf, xd, xc, xo, sv, p⟩, by go_num, by omega, by rw [List.length_set]; exact HLC.out, HO19.out, fun x hx => by
         rcases List.mem_or_eq_of_mem_set hx with h | h
         ·have := HALL4.out x h; omega
         rw [h]; dsimp only; have h1 := HSV.out; have h2 := HXX.out.2; dsimp only at h2; omega, HX19.out, HC19.out⟩
        case measure => simp [intOf]; omega
       have t7 : decide ((j : Int) < (who.length : Int)) = false := decide_eq_false (by omega)
       have hwl := HWL.out.1
       go_wp2_with fail
       go_roundw
       case rel => exact ⟨q + 1, LC, by go_num, by omega, HLC.out, HOWN4.out, fun x hx => by have := HALL4.out x hx; omega, HX4.out⟩
       case measure => simp [intOf]; omega
    have tk : (v.kind == 10) = false := by simpa using hvk
    clear HVK HVA HMS HCK
    go_wp2_with fail
    go_roundw
    case rel => exact ⟨q + 1, LB, by go_num, by omega, HLB2.out, HOWN2.out, fun x hx => by have := HALL2.out x hx; omega, HXO.out⟩
    case measure => simp [intOf]; omega
   have t5 : decide ((q : Int) < (n : Int)) = false := decide_eq_false (by omega)
   go_wp2_with fail
   go_ret2
   obtain ⟨a', c', e, hr⟩ := IsRows.of_owns (f := Adj.cells) (fun _ => rfl) (by rw [HLB2.out]; exact HOWN2.out)
   rw [HLB2.out] at e hr
   rw [e]
   exact ⟨LB, a', c', rfl, HLB2.out, hr, fun x hx => (HALL2.out x hx).1, HX2.out⟩
theorem rBefore_calls (c : Clm) (a : OA) (n cap i : Nat) (t : Int) (w : World) (hi : IsEvs w c.events a n cap) (hin : i <= n) (hn2 : n <= 1000000000000) :
  Calls Tryz.prog 40 #[ClmArg c a n cap, .int .i64 i, .int .i64 t] w (GivesE (.bool ((c.events.take i).any fun y => y.number == t)) w) := by
 have HN := hI hi.len
 obtain ⟨l, hl⟩ : ∃ l, l = c.events := ⟨_, rfl⟩
 have HI := hI (show IsEvs w l a n cap by rw [hl]; exact hi)
 rw [<- hl] at HN ⊢
 obtain ⟨R, hR⟩ : ∃ R, R = (l.take i).any fun y => y.number == t := ⟨_, rfl⟩
 rw [<- hR]
 have HR := hI hR
 clear hi hl hR
 unfold ClmArg
 obtain ⟨wa, hwa⟩ : ∃ wa, wa = w.alloc (.cells #[.int .i64 c.id, .int .i64 c.policy, .int .i64 c.risk, .int .i64 c.hour, .int .i64 c.peril, .int .i64 c.area, .slice a n cap] 33) := ⟨_, rfl⟩
 have HXA := hI (show Ext w wa by rw [hwa]; exact (Ext.refl _).alloc _)
 have HB0 := hI (show wa.heap[w.heap.size]? = some (.cells #[.int .i64 c.id, .int .i64 c.policy, .int .i64 c.risk, .int .i64 c.hour, .int .i64 c.peril, .int .i64 c.area, .slice a n cap] 33 (0, 0)) by rw [hwa]; exact alloc_new w _)
 go_enter Tryz.func40, Tryz.ntmps40
 go_upto_region 1 with fail
 rw [<- hwa]
 clear hwa
 go_wp2_with fail
 go_loopw [7] (fun q wr => ∃ k : Nat, q = .int .i64 k /\ k <= i /\ ((l.take k).any fun y => y.number == t) = false /\ Ext wa wr) (fun q _ => i - (intOf q).toNat)
 case atStart => exact ⟨0, rfl, Nat.zero_le _, rfl, Ext.refl _⟩
 case round =>
  obtain ⟨k, rfl, hk, hno, hx⟩ := hrel
  obtain ⟨wo, rfl⟩ : ∃ wo : World, wo = wr := ⟨_, rfl⟩
  have HNO := hI hno
  have HX := hI hx
  obtain ⟨a0, a1, a2, a3, a4, a5, a6, af⟩ := blk7 (hx.blk HB0.out)
  clear hno hx
  by_cases hki : k < i
  ·have hkl : k < l.length := by have := HN.out; omega
   have t1 : decide ((k : Int) < (i : Int)) = true := decide_eq_true (by omega)
   obtain ⟨b, off, v, rfl, hvx, -, hrow⟩ := (HI.out.ext (HXA.out.trans HX.out)).at hkl
   obtain ⟨c0, c1, c2, c3, c4, c5, c6⟩ := hrow.seven
   have HT := hI (show ((l.take (k + 1)).any fun y => y.number == t) = (v.x.number == t) by
    rw [List.take_succ_eq_append_getElem hkl, List.any_append, HNO.out, hvx]; simp)
   have tn0 : (0 : Int) <= (k : Int) := by omega
   have tn1 : (k : Int) < (n : Int) := by omega
   clear hvx hrow c1 c2 c3 c4 c5 c6
   cases hq : (v.x.number == t)
   ·rw [hq] at HT
    go_wp2_with fail
    go_roundw
    case rel => exact ⟨k + 1, by go_num, by omega, HT.out, HX.out⟩
    case measure => simp [intOf]; omega
   rw [hq] at HT
   have HQ := hI (show R = true by
    rw [HR.out, List.any_eq_true]
    obtain ⟨y, hy, he⟩ := List.any_eq_true.1 HT.out
    have : y ∈ l.take i := by
     have h1 : l.take (k + 1) = (l.take i).take (k + 1) := by rw [List.take_take]; congr 1; omega
     rw [h1] at hy
     exact List.mem_of_mem_take hy
    exact ⟨y, this, he⟩)
   go_wp2_with fail
   go_ret
   exact givesE_bool (by rw [HQ.out]) (HXA.out.trans HX.out)
  have t1 : decide ((k : Int) < (i : Int)) = false := decide_eq_false (by omega)
  have HQ := hI (show R = false by rw [HR.out, show i = k by omega]; exact HNO.out)
  go_wp2_with fail
  go_ret
  exact givesE_bool (by rw [HQ.out]) (HXA.out.trans HX.out)
theorem evErr_ref (s : List Attr) (l : List Ev) (x : Ev) : evErr s l x = if inB 1 1048576 x.number = false \/ inB 0 876599 x.known = false then 1 else if orderB l x = true then 13 else if rEvErr s x ≠ 0 then rEvErr s x else if isVoid x = true /\ (l.any fun y => y.number == x.target) = false then 7 else 0 := by
 unfold evErr rEvErr
 by_cases h1 : inB 1 1048576 x.number = false \/ inB 0 876599 x.known = false
 ·rw [if_pos h1, if_pos h1]
 rw [if_neg h1, if_neg h1]
 by_cases h2 : orderB l x = true
 ·rw [if_pos h2, if_pos h2]
 rw [if_neg h2, if_neg h2]
 by_cases h3 : inB 1 7 x.kind = false
 ·rw [if_pos h3, if_pos h3, if_pos (by decide)]
 rw [if_neg h3, if_neg h3]
 by_cases h4 : fieldB x = true
 ·rw [if_pos h4, if_pos h4, if_pos (by decide)]
 rw [if_neg h4, if_neg h4]
 unfold partErr rPart
 by_cases k1 : x.kind = 1 \/ x.kind = 2
 ·have hv : ¬ (isVoid x = true /\ (l.any fun y => y.number == x.target) = false) := fun h => by have := h.1; unfold isVoid at this; simp at this; omega
  rw [if_pos k1, if_pos k1, if_neg hv]
  by_cases hz : (if 64 < x.items.length then 4 else itsErr s x.items) = 0
  ·rw [hz]; simp
  rw [if_pos hz]
 rw [if_neg k1, if_neg k1]
 by_cases k3 : x.kind = 3 \/ x.kind = 4
 ·have hv : ¬ (isVoid x = true /\ (l.any fun y => y.number == x.target) = false) := fun h => by have := h.1; unfold isVoid at this; simp at this; omega
  rw [if_pos k3, if_pos k3, if_neg hv]
  by_cases hz : cashErr x.cur x.amount = 0
  ·rw [hz]; simp
  rw [if_pos hz]
 rw [if_neg k3, if_neg k3, if_neg (show ¬ ((0 : Int) ≠ 0) by simp)]
 by_cases k7 : x.kind = 7
 ·have hv : isVoid x = true := by unfold isVoid; simp [k7]
  rw [if_pos k7]
  cases hb : (l.any fun y => y.number == x.target) <;> simp [hv]
 have hv : isVoid x = false := by unfold isVoid; simp [k7]
 rw [if_neg k7, if_neg (by simp [hv])]
def RClI (s : List Attr) (l : List Ev) (n : Nat) (w : World) (i : Value) (wr : World) : Prop := ∃ k : Nat, i = .int .i64 k /\ k <= n /\ (∀ j (h : j < l.length), j < k -> evErr s (l.take j) l[j] = 0) /\ Ext w wr
theorem orderB_at {l : List Ev} {x : Ev} {p : Nat} (hp : p < l.length) : orderB (l.take (p + 1)) x = (decide (x.number <= l[p].number) || decide (x.known < l[p].known)) := by
 unfold orderB
 have : (l.take (p + 1)).getLast? = some l[p] := by rw [List.take_succ_eq_append_getElem hp, List.getLast?_append]; rfl
 rw [this]
theorem rClaimErr_calls (s : List Attr) (v : Value) (c : Clm) (a : OA) (n cap : Nat) (w : World) (hs : IsSchema w s v) (hf : ∀ x ∈ s, x.fits) (hl : s.length <= 1000000000000000) (hi : IsEvs w c.events a n cap) (hn2 : n <= 1000000000000) (hfew : ∀ x ∈ c.events, fewEv x) :
  Calls Tryz.prog 17 #[v, ClmArg c a n cap] w (GivesE (.int .i64 (clmErr s c)) w) := by
 obtain ⟨sa, sn, sc, rfl, -⟩ := hs.slice
 have HS := hI hs
 have HF := hI hf
 have HL := hI hl
 have HI := hI hi
 have HN := hI hi.len
 have HFEW := hI hfew
 obtain ⟨R, hR⟩ : ∃ R, R = clmErr s c := ⟨_, rfl⟩
 rw [<- hR]
 have HR1 := hI (show schemaErr s ≠ 0 -> R = schemaErr s from fun h => hR.trans (clm_schema h))
 have HR2 := hI (show schemaErr s = 0 -> idsB c = false -> R = 1 from fun h h1 => hR.trans (clm_ids h h1))
 have HR3 := hI (show schemaErr s = 0 -> idsB c = true -> 64 < c.events.length -> R = 4 from fun h h1 h2 => hR.trans (clm_many h h1 h2))
 have HR4 := hI (show schemaErr s = 0 -> idsB c = true -> ¬ 64 < c.events.length -> R = evsErr s c.events from fun h h1 h2 => hR.trans (clm_evs h h1 h2))
 have HID := hI (show idsB c = (inB 1 1048576 c.id && inB 1 1048576 c.policy && inB 1 1048576 c.risk && inB 0 876599 c.hour && inB 0 15 c.peril && inB 0 15 c.area) from rfl)
 have HBF := hI (fun (i : Nat) (t : Int) W (hW : Ext w W) (hin : i <= n) => rBefore_calls c a n cap i t W (hi.ext hW) hin hn2)
 obtain ⟨I1, hI1⟩ : ∃ I1, I1 = inB 1 1048576 c.id := ⟨_, rfl⟩
 obtain ⟨I2, hI2⟩ : ∃ I2, I2 = inB 1 1048576 c.policy := ⟨_, rfl⟩
 obtain ⟨I3, hI3⟩ : ∃ I3, I3 = inB 1 1048576 c.risk := ⟨_, rfl⟩
 obtain ⟨I4, hI4⟩ : ∃ I4, I4 = inB 0 876599 c.hour := ⟨_, rfl⟩
 obtain ⟨I5, hI5⟩ : ∃ I5, I5 = inB 0 15 c.peril := ⟨_, rfl⟩
 obtain ⟨I6, hI6⟩ : ∃ I6, I6 = inB 0 15 c.area := ⟨_, rfl⟩
 have HC1 := hI (fun W => rId_calls c.id W)
 have HC2 := hI (fun W => rId_calls c.policy W)
 have HC3 := hI (fun W => rId_calls c.risk W)
 have HC4 := hI (fun W => (show Calls _ _ _ W (GivesE (.bool (inB 0 876599 c.hour)) W) from rHours_calls c.hour W))
 rw [<- hI1] at HC1 HID
 rw [<- hI2] at HC2 HID
 rw [<- hI3] at HC3 HID
 rw [<- hI4] at HC4 HID
 rw [<- hI5, <- hI6] at HID
 have HI5 := hI hI5
 have HI6 := hI hI6
 unfold ClmArg at HBF ⊢
 clear hs hf hl hi hfew hR hI1 hI2 hI3 hI4 hI5 hI6
 obtain ⟨wa, hwa⟩ : ∃ wa, wa = (w.alloc (.cells #[.slice sa sn sc] 25)).alloc (.cells #[.int .i64 c.id, .int .i64 c.policy, .int .i64 c.risk, .int .i64 c.hour, .int .i64 c.peril, .int .i64 c.area, .slice a n cap] 33) := ⟨_, rfl⟩
 have HXA := hI (show Ext w wa by rw [hwa]; exact ((Ext.refl _).alloc _).alloc _)
 have HB0 := hI (show wa.heap[w.heap.size]? = some (SchBox sa sn sc) by rw [hwa]; exact blk_alloc (alloc_new w _))
 have HB1 := hI (show wa.heap[w.heap.size + 1]? = some (ClmBox c a n cap) by rw [hwa]; have := alloc_new (w.alloc (.cells #[.slice sa sn sc] 25)) (.cells #[.int .i64 c.id, .int .i64 c.policy, .int .i64 c.risk, .int .i64 c.hour, .int .i64 c.peril, .int .i64 c.area, .slice a n cap] 33); rwa [World.size_alloc] at this)
 obtain ⟨s0, sf⟩ := blk1 HB0.out
 go_enter Tryz.func17, Tryz.ntmps17
 go_upto_region 1 with fail
 rw [<- hwa]
 clear hwa
 go_wp2_with fail
 refine (rSchema_calls s _ wa (HS.out.ext HXA.out) HF.out HL.out).mono ?_
 rintro r w1 ⟨rfl, hx1⟩
 have HX1 := hI (HXA.out.trans hx1)
 have HS1 := hI (hx1.blk HB0.out)
 have HB11 := hI (hx1.blk HB1.out)
 clear hx1 s0 sf HB0 HB1
 obtain ⟨E, hE⟩ : ∃ E, E = schemaErr s := ⟨_, rfl⟩
 rw [<- hE] at HR1 HR2 HR3 HR4 ⊢
 clear hE
 by_cases hE0 : E = 0
 case neg =>
  have te : (E != 0) = true := by simp [hE0]
  have HQ := hI (HR1.out hE0)
  clear hE0
  go_wp2_with fail
  go_ret
  exact givesE_of (by rw [HQ.out]) HX1.out
 subst hE0
 have HQ1 := hI (HR2.out rfl)
 have HQ2 := hI (HR3.out rfl)
 have HQ3 := hI (HR4.out rfl)
 clear HR1 HR2 HR3 HR4
 rw [HID.out] at HQ1 HQ2 HQ3
 clear HID
 obtain ⟨a0, a1, a2, a3, a4, a5, a6, af⟩ := blk7 HB11.out
 go_wp2_with fail
 refine (HC1.out _).mono ?_
 rintro r w2 ⟨rfl, hx2⟩
 have HX2 := hI (HX1.out.trans hx2)
 have HS2 := hI (hx2.blk HS1.out)
 have HB2 := hI (hx2.blk HB11.out)
 clear hx2 a0 a1 a2 a3 a4 a5 a6 af
 obtain ⟨a0, a1, a2, a3, a4, a5, a6, af⟩ := blk7 HB2.out
 cases I1
 ·have HQ := hI (HQ1.out (by simp))
  go_wp2_with fail
  go_ret
  exact givesE_of (by rw [HQ.out]) HX2.out
 go_wp2_with fail
 refine (HC2.out _).mono ?_
 rintro r w3 ⟨rfl, hx3⟩
 have HX3 := hI (HX2.out.trans hx3)
 have HS3 := hI (hx3.blk HS2.out)
 have HB3 := hI (hx3.blk HB2.out)
 clear hx3 a0 a1 a2 a3 a4 a5 a6 af
 obtain ⟨a0, a1, a2, a3, a4, a5, a6, af⟩ := blk7 HB3.out
 cases I2
 ·have HQ := hI (HQ1.out (by simp))
  go_wp2_with fail
  go_ret
  exact givesE_of (by rw [HQ.out]) HX3.out
 go_wp2_with fail
 refine (HC3.out _).mono ?_
 rintro r w4 ⟨rfl, hx4⟩
 have HX4 := hI (HX3.out.trans hx4)
 have HS4 := hI (hx4.blk HS3.out)
 have HB4 := hI (hx4.blk HB3.out)
 clear hx4 a0 a1 a2 a3 a4 a5 a6 af
 obtain ⟨a0, a1, a2, a3, a4, a5, a6, af⟩ := blk7 HB4.out
 cases I3
 ·have HQ := hI (HQ1.out (by simp))
  go_wp2_with fail
  go_ret
  exact givesE_of (by rw [HQ.out]) HX4.out
 go_wp2_with fail
 refine (HC4.out _).mono ?_
 rintro r w5 ⟨rfl, hx5⟩
 have HX5 := hI (HX4.out.trans hx5)
 have HS5 := hI (hx5.blk HS4.out)
 have HB5 := hI (hx5.blk HB4.out)
 clear hx5 a0 a1 a2 a3 a4 a5 a6 af
 obtain ⟨a0, a1, a2, a3, a4, a5, a6, af⟩ := blk7 HB5.out
 cases I4
 ·have HQ := hI (HQ1.out (by simp))
  go_wp2_with fail
  go_ret
  exact givesE_of (by rw [HQ.out]) HX5.out
 by_cases p0 : c.peril < 0
 ·have u : decide (c.peril < 0) = true := decide_eq_true p0
  have HQ := hI (HQ1.out (by rw [HI5.out]; unfold inB; simp; omega))
  clear p0
  go_wp2_with fail
  go_ret
  exact givesE_of (by rw [HQ.out]) HX5.out
 have u1 : decide (c.peril < 0) = false := decide_eq_false p0
 by_cases p1 : 15 < c.peril
 ·have u : decide (15 < c.peril) = true := decide_eq_true p1
  have HQ := hI (HQ1.out (by rw [HI5.out]; unfold inB; simp; omega))
  clear p0 p1
  go_wp2_with fail
  go_ret
  exact givesE_of (by rw [HQ.out]) HX5.out
 have u2 : decide (15 < c.peril) = false := decide_eq_false p1
 obtain rfl : I5 = true := by rw [HI5.out]; unfold inB; simp; omega
 by_cases q0 : c.area < 0
 ·have u : decide (c.area < 0) = true := decide_eq_true q0
  have HQ := hI (HQ1.out (by rw [HI6.out]; unfold inB; simp; omega))
  clear p0 p1 q0
  go_wp2_with fail
  go_ret
  exact givesE_of (by rw [HQ.out]) HX5.out
 have u3 : decide (c.area < 0) = false := decide_eq_false q0
 by_cases q1 : 15 < c.area
 ·have u : decide (15 < c.area) = true := decide_eq_true q1
  have HQ := hI (HQ1.out (by rw [HI6.out]; unfold inB; simp; omega))
  clear p0 p1 q0 q1
  go_wp2_with fail
  go_ret
  exact givesE_of (by rw [HQ.out]) HX5.out
 have u4 : decide (15 < c.area) = false := decide_eq_false q1
 obtain rfl : I6 = true := by rw [HI6.out]; unfold inB; simp; omega
 clear p0 p1 q0 q1
 have HQ4 := hI (HQ2.out rfl)
 have HQ5 := hI (HQ3.out rfl)
 clear HQ1 HQ2 HQ3 HI5 HI6
 rw [<- HN.out] at HQ4 HQ5
 by_cases h64 : 64 < n
 ·have u : decide ((64 : Int) < (n : Int)) = true := decide_eq_true (by omega)
  have HQ := hI (HQ4.out h64)
  clear h64
  go_wp2_with fail
  go_ret
  exact givesE_of (by rw [HQ.out]) HX5.out
 have u5 : decide ((64 : Int) < (n : Int)) = false := decide_eq_false (by omega)
 have HRE := hI (HQ5.out h64)
 clear h64 HQ4 HQ5
 go_wp2_with fail
 clear a0 a1 a2 a3 a4 a5 a6 af u1 u2 u3 u4 u5
 go_loopw [6] (RClI s c.events n w5) (fun t _ => n - (intOf t).toNat)
 case atStart => exact ⟨0, rfl, by omega, fun j _ h => by omega, Ext.refl _⟩
 case round =>
  obtain ⟨k, rfl, hk, hno, hx⟩ := hrel
  obtain ⟨wo, rfl⟩ : ∃ wo : World, wo = wr := ⟨_, rfl⟩
  have HNO := hI hno
  have HX := hI hx
  have HBO := hI (hx.blk HB5.out)
  have HSO := hI (hx.blk HS5.out)
  obtain ⟨a0, a1, a2, a3, a4, a5, a6, af⟩ := blk7 HBO.out
  clear hno hx
  by_cases hkn : k < n
  ·have hkl : k < c.events.length := by have := HN.out; omega
   have t1 : decide ((k : Int) < (n : Int)) = true := decide_eq_true (by omega)
   have tk0 : (0 : Int) <= (k : Int) := by omega
   have tk1 : (k : Int) < (n : Int) := by omega
   have HEVS := hI (HI.out.ext (HX5.out.trans HX.out))
   obtain ⟨b, off, ev, hab, hxv, hits, hrow⟩ := HEVS.out.at hkl
   obtain ⟨c0, c1, c2, c3, c4, c5, c6⟩ := hrow.seven
   have HXV := hI hxv
   have HITS := hI (show IsIts wo ev.x.items ev.a ev.n ev.c by rw [hxv]; exact hits)
   have hevn : ev.n <= 1000000000000000 := by
    have h1 := HITS.out.len
    have h2 := (HFEW.out _ (List.getElem_mem hkl)).1
    rw [<- hxv] at h2
    omega
   clear hxv hits hrow
   have HHIT := hI (show evErr s (c.events.take k) c.events[k] ≠ 0 -> R = evErr s (c.events.take k) c.events[k] from fun h => by rw [HRE.out, evsErr_hit hkl (fun j hj hjk => HNO.out j hj hjk) h])
   have HEK := hI (evErr_ref s (c.events.take k) c.events[k])
   obtain ⟨EK, hEK⟩ : ∃ EK, EK = evErr s (c.events.take k) c.events[k] := ⟨_, rfl⟩
   have HKK := hI hEK
   rw [<- hEK] at HHIT HEK
   rw [<- HXV.out] at HEK
   subst hab
   obtain ⟨J1, hJ1⟩ : ∃ J1, J1 = inB 1 1048576 ev.x.number := ⟨_, rfl⟩
   obtain ⟨J2, hJ2⟩ : ∃ J2, J2 = inB 0 876599 ev.x.known := ⟨_, rfl⟩
   have HJ1 := hI (fun W => rId_calls ev.x.number W)
   have HJ2 := hI (fun W => (show Calls _ _ _ W (GivesE (.bool (inB 0 876599 ev.x.known)) W) from rHours_calls ev.x.known W))
   rw [<- hJ1] at HJ1 HEK
   rw [<- hJ2] at HJ2 HEK
   obtain ⟨ORB, hOB⟩ : ∃ ORB, ORB = orderB (c.events.take k) ev.x := ⟨_, rfl⟩
   have HOB := hI hOB
   obtain ⟨F, hF⟩ : ∃ F, F = rEvErr s ev.x := ⟨_, rfl⟩
   obtain ⟨B, hB⟩ : ∃ B, B = (c.events.take k).any fun y => y.number == ev.x.target := ⟨_, rfl⟩
   have HBC := hI (fun W (hW : Ext w W) => HBF.out k ev.x.target W hW (by omega))
   rw [<- hB] at HBC HEK
   rw [<- hOB, <- hF] at HEK
   have HFF := hI hF
   obtain ⟨wb, hwb⟩ : ∃ wb, wb = wo.alloc (.cells #[.int .i64 ev.x.number, .int .i64 ev.x.known, .int .i64 ev.x.kind, .slice ev.a ev.n ev.c, .int .i64 ev.x.cur, .int .i64 ev.x.amount, .int .i64 ev.x.target] 71) := ⟨_, rfl⟩
   have HXB := hI (show Ext wo wb by rw [hwb]; exact (Ext.refl _).alloc _)
   have HEB := hI (show wb.heap[wo.heap.size]? = some (EvBox ev) by rw [hwb]; exact alloc_new wo _)
   clear hEK hJ1 hJ2 hOB hF hB
   go_upto_region 12 with fail
   rw [<- hwb]
   clear hwb c0 c1 c2 c3 c4 c5 c6 a0 a1 a2 a3 a4 a5 a6 af
   obtain ⟨e0, e1, e2, e3, e4, e5, e6, ef⟩ := blk7 HEB.out
   go_wp2_with fail
   refine (HJ1.out _).mono ?_
   rintro r w6 ⟨rfl, hx6⟩
   have HX6 := hI (HXB.out.trans hx6)
   have HE6 := hI (hx6.blk HEB.out)
   clear hx6 e0 e1 e2 e3 e4 e5 e6 ef
   obtain ⟨e0, e1, e2, e3, e4, e5, e6, ef⟩ := blk7 HE6.out
   cases J1
   ·have h1 := HEK.out
    rw [if_pos (Or.inl rfl)] at h1
    have HQ := hI (show R = 1 by rw [HHIT.out (by rw [h1]; decide), h1])
    clear h1
    go_wp2_with fail
    go_ret
    exact givesE_of (by rw [HQ.out]) ((HX5.out.trans HX.out).trans HX6.out)
   go_wp2_with fail
   refine (HJ2.out _).mono ?_
   rintro r w7 ⟨rfl, hx7⟩
   have HX7 := hI (HX6.out.trans hx7)
   have HE7 := hI (hx7.blk HE6.out)
   have HC7 := hI (HX7.out.blk HBO.out)
   have HXW7 := hI ((HX5.out.trans HX.out).trans HX7.out)
   clear hx7 e0 e1 e2 e3 e4 e5 e6 ef
   obtain ⟨e0, e1, e2, e3, e4, e5, e6, ef⟩ := blk7 HE7.out
   obtain ⟨a0, a1, a2, a3, a4, a5, a6, af⟩ := blk7 HC7.out
   cases J2
   ·have h1 := HEK.out
    rw [if_pos (Or.inr rfl)] at h1
    have HQ := hI (show R = 1 by rw [HHIT.out (by rw [h1]; decide), h1])
    clear h1
    go_wp2_with fail
    go_ret
    exact givesE_of (by rw [HQ.out]) HXW7.out
   have h1 := HEK.out
   rw [if_neg (by simp)] at h1
   have HEK2 := hI h1
   clear h1 HEK HJ1 HJ2
   go_upto_region 14 with fail
   go_cut [107] (fun s107 wx => s107 = .bool ORB /\ Ext w7 wx)
   case first =>
    rcases Nat.eq_zero_or_pos k with hk0 | hk0
    ·have tz : decide (0 < k) = false := decide_eq_false (by omega)
     have HO := hI (show ORB = false by rw [HOB.out, hk0]; rfl)
     clear hk0
     go_wp2_with fail
     go_quiet (fail)
     go_wp2_with fail
     go_meet
     case rel => exact ⟨by rw [HO.out], (Ext.refl w7).drewN _⟩
    obtain ⟨p, rfl⟩ : ∃ p, k = p + 1 := ⟨k - 1, by omega⟩
    have hpl : p < c.events.length := by omega
    have HO := hI (show ORB = (decide (ev.x.number <= c.events[p].number) || decide (ev.x.known < c.events[p].known)) by rw [HOB.out]; exact orderB_at hpl)
    obtain ⟨b', off', yv, he, hyv, -, hyr⟩ := (HI.out.ext HXW7.out).at hpl
    simp only [Option.some.injEq, Addr.mk.injEq, and_true] at he
    obtain ⟨rfl, rfl⟩ := he
    obtain ⟨d0, d1, d2, d3, d4, d5, d6⟩ := hyr.seven
    rw [<- hyv] at HO
    have tz : decide ((0 : Int) < ((p + 1 : Nat) : Int)) = true := decide_eq_true (by omega)
    have tp : ((p + 1 : Nat) : Int) - 1 = (p : Int) := by omega
    have tp0 : (0 : Int) <= (p : Int) := by omega
    have tp1 : (p : Int) < (n : Int) := by omega
    clear hk0 hyv hyr
    by_cases h1 : ev.x.number <= yv.x.number
    ·have q1 : decide (ev.x.number <= yv.x.number) = true := decide_eq_true h1
     rw [q1] at HO
     clear h1
     go_wp2_with fail
     go_quiet (fail)
     go_wp2_with fail
     go_meet
     case rel => exact ⟨by rw [HO.out]; rfl, (Ext.refl w7).drewN _⟩
    have q1 : decide (ev.x.number <= yv.x.number) = false := decide_eq_false h1
    clear h1
    by_cases h2 : ev.x.known < yv.x.known
    ·have q2 : decide (ev.x.known < yv.x.known) = true := decide_eq_true h2
     rw [q1, q2] at HO
     clear h2
     go_wp2_with fail
     go_quiet (fail)
     go_wp2_with fail
     go_meet
     case rel => exact ⟨by rw [HO.out]; rfl, (Ext.refl w7).drewN _⟩
    have q2 : decide (ev.x.known < yv.x.known) = false := decide_eq_false h2
    rw [q1, q2] at HO
    clear h2
    go_wp2_with fail
    go_quiet (fail)
    go_wp2_with fail
    go_meet
    case rel => exact ⟨by rw [HO.out]; rfl, (Ext.refl w7).drewN _⟩
   case rest =>
   obtain ⟨rfl, hxc⟩ := hcut
   obtain ⟨w8, rfl⟩ : ∃ W : World, W = wc := ⟨_, rfl⟩
   have HX8 := hI (HXW7.out.trans hxc)
   have HXX8 := hI (HX7.out.trans hxc)
   have HE8 := hI (hxc.blk HE7.out)
   have HC8 := hI (hxc.blk HC7.out)
   have HS8 := hI ((HX7.out.trans hxc).blk HSO.out)
   clear hxc HOB e0 e1 e2 e3 e4 e5 e6 ef a0 a1 a2 a3 a4 a5 a6 af
   obtain ⟨e0, e1, e2, e3, e4, e5, e6, ef⟩ := blk7 HE8.out
   obtain ⟨s0, sf⟩ := blk1 HS8.out
   cases ORB
   case true =>
    have h1 := HEK2.out
    rw [if_pos rfl] at h1
    have HQ := hI (show R = 13 by rw [HHIT.out (by rw [h1]; decide), h1])
    clear h1
    go_wp2_with fail
    go_ret
    exact givesE_of (by rw [HQ.out]) HX8.out
   have h1 := HEK2.out
   rw [if_neg (by simp)] at h1
   have HEK3 := hI h1
   have HEC := hI (rEvent_calls s _ ev w8 (HS.out.ext HX8.out) HF.out HL.out (HITS.out.ext HXX8.out) hevn)
   rw [<- HFF.out] at HEC
   unfold EvV.val at HEC
   clear h1 HEK2 HFF
   go_wp2_with fail
   refine HEC.out.mono ?_
   rintro r w9 ⟨rfl, hx9⟩
   have HX9 := hI (HX8.out.trans hx9)
   have HXX9 := hI (HXX8.out.trans hx9)
   have HE9 := hI (hx9.blk HE8.out)
   have HC9 := hI (hx9.blk HC8.out)
   clear hx9 HEC e0 e1 e2 e3 e4 e5 e6 ef s0 sf
   obtain ⟨e0, e1, e2, e3, e4, e5, e6, ef⟩ := blk7 HE9.out
   obtain ⟨a0, a1, a2, a3, a4, a5, a6, af⟩ := blk7 HC9.out
   by_cases hF0 : F = 0
   case neg =>
    have te : (F != 0) = true := by simp [hF0]
    have h1 := HEK3.out
    rw [if_pos hF0] at h1
    have HQ := hI (show R = F by rw [HHIT.out (by rw [h1]; exact hF0), h1])
    clear h1 hF0
    go_wp2_with fail
    go_ret
    exact givesE_of (by rw [HQ.out]) HX9.out
   subst hF0
   have h1 := HEK3.out
   rw [if_neg (show ¬ ((0 : Int) ≠ 0) by simp)] at h1
   have HEK4 := hI h1
   clear h1 HEK3
   have HNEXT := hI (show EK = 0 -> ∀ j (h : j < c.events.length), j < k + 1 -> evErr s (c.events.take j) c.events[j] = 0 from fun h0 j hj hjk => by
    by_cases e : j = k
    ·subst e; rw [<- HKK.out]; exact h0
    exact HNO.out j hj (by omega))
   cases k7 : (ev.x.kind == 7)
   ·have HQ := hI (show EK = 0 by rw [HEK4.out, if_neg (by unfold isVoid; rw [k7]; simp)])
    go_wp2_with fail
    go_roundw
    case rel => exact ⟨k + 1, by go_num, by omega, HNEXT.out HQ.out, HX.out.trans HXX9.out⟩
    case measure => simp [intOf]; omega
   have HV7 := hI (show isVoid ev.x = true from k7)
   go_wp2_with fail
   refine (HBC.out w9 HX9.out).mono ?_
   rintro r w10 ⟨rfl, hx10⟩
   have HX10 := hI (HX9.out.trans hx10)
   have HXX10 := hI (HXX9.out.trans hx10)
   clear hx10
   cases B
   ·have h1 := HEK4.out
    rw [if_pos ⟨HV7.out, rfl⟩] at h1
    have HQ := hI (show R = 7 by rw [HHIT.out (by rw [h1]; decide), h1])
    clear h1
    go_wp2_with fail
    go_ret
    exact givesE_of (by rw [HQ.out]) HX10.out
   have HQ := hI (show EK = 0 by rw [HEK4.out, if_neg (by simp)])
   go_wp2_with fail
   go_roundw
   case rel => exact ⟨k + 1, by go_num, by omega, HNEXT.out HQ.out, HX.out.trans HXX10.out⟩
   case measure => simp [intOf]; omega
  have t1 : decide ((k : Int) < (n : Int)) = false := decide_eq_false (by omega)
  have HQ := hI (show R = 0 by rw [HRE.out, evsErr_zero (fun j hj => HNO.out j hj (by have := HN.out; omega))])
  go_wp2_with fail
  go_ret
  exact givesE_of (by rw [HQ.out]) (HX5.out.trans HX.out)
def AddL (l : ZI) (x : Int) (n base : Nat) (w : World) (v d i : Value) (wr : World) : Prop := ∃ (f : ZI) (D : Bool) (k : Nat), d = .bool D /\ i = .int .i64 k /\ k <= n /\ f.length <= k + 1 /\ (D = false -> f.length = k) /\ f ++ (if D = true then l.drop k else addPt (l.drop k) x) = addPt l x /\ wr.ownsRow base 3 1 v f.length (f.flatMap intCells) /\ Ext w wr
theorem dropAt {α : Type} {l : List α} {k : Nat} (hk : k < l.length) : l.drop k = l[k] :: l.drop (k + 1) := List.drop_eq_getElem_cons hk
theorem add_next {l : ZI} {x y : Int} {f : ZI} {D : Bool} {k : Nat} (hdr : l.drop k = y :: l.drop (k + 1)) (h1 : f.length <= k + 1) (h2 : D = false -> f.length = k) (h : f ++ (if D = true then l.drop k else addPt (l.drop k) x) = addPt l x) :
  ∃ (F : ZI) (D' : Bool), F.length <= k + 1 /\ (D' = false -> F.length = k) /\ (F ++ [y]) ++ (if D' = true then l.drop (k + 1) else addPt (l.drop (k + 1)) x) = addPt l x /\ ((D = true /\ F = f /\ D' = true) \/ (D = false /\ x < y /\ F = f ++ [x] /\ D' = true) \/ (D = false /\ x = y /\ F = f /\ D' = true) \/ (D = false /\ y < x /\ F = f /\ D' = false)) := by
 cases D
 ·have hl := h2 rfl
  rw [if_neg (by simp), hdr, addPt] at h
  by_cases h1 : x < y
  ·rw [if_pos h1] at h
   exact ⟨f ++ [x], true, by simp; omega, by simp, by rw [<- h]; simp, Or.inr (Or.inl ⟨rfl, h1, rfl, rfl⟩)⟩
  rw [if_neg h1] at h
  by_cases h2 : x = y
  ·rw [if_pos h2] at h
   exact ⟨f, true, by omega, by simp, by rw [<- h]; simp, Or.inr (Or.inr (Or.inl ⟨rfl, h2, rfl, rfl⟩))⟩
  rw [if_neg h2] at h
  exact ⟨f, false, by omega, fun _ => hl, by rw [<- h]; simp, Or.inr (Or.inr (Or.inr ⟨rfl, by omega, rfl, rfl⟩))⟩
 rw [if_pos rfl, hdr] at h
 exact ⟨f, true, by omega, by simp, by rw [<- h]; simp, Or.inl ⟨rfl, rfl, rfl⟩⟩
theorem radd_calls (l : ZI) (a : OA) (n c : Nat) (x : Int) (w : World) (hi : IsIntF w l a n) (hn2 : n <= 1000000000000) :
  Calls Tryz.prog 110 #[.slice a n c, .int .i64 x] w (IntsQ (addPt l x) w) := by
 have HI := hI hi
 have HN := hI hi.1
 clear hi
 go_enter Tryz.func110, Tryz.ntmps110
 go_wp2_with fail
 go_loopw [5, 6, 7] (AddL l x n w.heap.size w) (fun _ _ i _ => n - (intOf i).toNat)
 case atStart => exact ⟨[], false, 0, rfl, rfl, Nat.zero_le _, Nat.zero_le _, fun _ => rfl, rfl, ⟨rfl, Or.inl ⟨rfl, rfl⟩⟩, Ext.refl _⟩
 case round =>
  obtain ⟨f, D, k, rfl, rfl, hk, hfl, hfe, hinv, hown, hx⟩ := hrel
  obtain ⟨wo, rfl⟩ : ∃ wo : World, wo = wr := ⟨_, rfl⟩
  have HINV := hI hinv
  have HFE := hI hfe
  have HX := hI hx
  have HOWN := hI hown
  have hsz := hx.size
  obtain ⟨kf, hkf⟩ : ∃ kf, kf = f.length := ⟨_, rfl⟩
  have HKF := hI hkf
  rw [<- hkf] at HOWN hfl
  clear hinv hx hfe hown hkf
  by_cases hkn : k < n
  ·have hkl : k < l.length := by have := HN.out; omega
   have t1 : decide ((k : Int) < (n : Int)) = true := decide_eq_true (by omega)
   obtain ⟨b, off, rfl, hc⟩ := HI.out.2 k hkl
   have hcell := HX.out.cell hc
   obtain ⟨y, hy⟩ : ∃ y, y = l[k] := ⟨_, rfl⟩
   rw [<- hy] at hcell
   have HDR := hI (show l.drop k = y :: l.drop (k + 1) by rw [hy]; exact dropAt hkl)
   have HCE := hI (fun W (hW : Ext w W) => hy ▸ hW.cell hc)
   clear hc hy
   obtain ⟨F, D', hF1, hF2, hF3, hF4⟩ := add_next HDR.out (by rw [<- HKF.out]; exact hfl) HFE.out HINV.out
   have HF2 := hI hF2
   have HF3 := hI hF3
   clear hF2 hF3
   rcases hF4 with ⟨rfl, hF, rfl⟩ | ⟨rfl, hxy, hF, rfl⟩ | ⟨rfl, hxy, hF, rfl⟩ | ⟨rfl, hxy, hF, rfl⟩
   case' inl =>
    have HF := hI hF
    have HO := hI (show wo.ownsRow w.heap.size 3 1 u5 F.length (F.flatMap intCells) by rw [HF.out, <- HKF.out]; exact HOWN.out)
    have HXW := hI HX.out
    clear hF
    go_upto_region 10 with fail
   case' inr.inl =>
    have t2 : decide (x <= y) = true := decide_eq_true (by omega)
    have t3 : decide (x < y) = true := decide_eq_true hxy
    have HF := hI hF
    clear hF hxy
    go_wp2_with (at_builtin; refine wpList_append_at elemInts rfl _ _ rfl w.heap.size _ kf _ rfl HOWN.out _ 1 1 rfl ?e0 rfl ?e1 ?e2 ?e3 ?e4 ?_)
    case e0 => simp
    case e1 => simp [Value.oneCell']
    case e2 => unfold maxLen; omega
    case e3 => omega
    try (case e4 => omega)
    intro v8 w8 hown8 hc8 hw8
    have HO := hI (show w8.ownsRow w.heap.size 3 1 v8 F.length (F.flatMap intCells) by rw [HF.out]; exact own_snoc HKF.out hown8)
    have HXW := hI (hc8.ext HX.out (fun y hy => (HOWN.out.lt y (mem_rowOf.1 hy)).1))
    have hcell := HCE.out _ HXW.out
    obtain ⟨a8, c8, hv8⟩ := owns_formG hown8
    subst hv8
    clear hown8 hc8 hw8
    go_upto_region 10 with fail
   case' inr.inr.inl =>
    have t2 : decide (x <= y) = true := decide_eq_true (by omega)
    have t3 : decide (x < y) = false := decide_eq_false (by omega)
    have HF := hI hF
    have HO := hI (show wo.ownsRow w.heap.size 3 1 u5 F.length (F.flatMap intCells) by rw [HF.out, <- HKF.out]; exact HOWN.out)
    have HXW := hI HX.out
    clear hF hxy
    go_upto_region 10 with fail
   case' inr.inr.inr =>
    have t2 : decide (x <= y) = false := decide_eq_false (by omega)
    have HF := hI hF
    have HO := hI (show wo.ownsRow w.heap.size 3 1 u5 F.length (F.flatMap intCells) by rw [HF.out, <- HKF.out]; exact HOWN.out)
    have HXW := hI HX.out
    clear hF hxy
    go_upto_region 10 with fail
   all_goals
    have hxz := HXW.out.size
    obtain ⟨kF, hkF⟩ : ∃ kF, kF = F.length := ⟨_, rfl⟩
    have HKF2 := hI hkF
    have HO2 := hI HO.out
    rw [<- hkF] at HO2 hF1
    clear hkF
    go_wp2_with (at_builtin; refine wpList_append_at elemInts rfl _ _ rfl w.heap.size _ kF _ rfl HO2.out _ 1 1 rfl (by simp) rfl (by simp [Value.oneCell']) (by unfold maxLen; omega) (by omega) (by omega) ?_)
    intro v9 w9 hown9 hc9 hw9
    have HO9 := hI (own_snoc HKF2.out hown9)
    have HX9 := hI (hc9.ext HXW.out (fun y hy => (HO2.out.lt y (mem_rowOf.1 hy)).1))
    obtain ⟨a9, c9, hv9⟩ := owns_formG hown9
    subst hv9
    clear hown9 hc9 hw9
    go_wp2_with fail
    go_roundw
    case rel =>
     refine ⟨F ++ [y], _, k + 1, rfl, by go_num, by omega, by rw [List.length_append, <- HKF2.out]; simp; omega, fun h => ?_, HF3.out, HO9.out, HX9.out⟩
     rw [List.length_append]; first | (exfalso; cases h; done) | (rw [HF2.out (by simp)]; rfl)
    case measure => simp [intOf]; omega
  have t1 : decide ((k : Int) < (n : Int)) = false := decide_eq_false (by omega)
  have hke : l.drop k = [] := List.drop_eq_nil_of_le (by have := HN.out; omega)
  have hinv := HINV.out
  rw [hke] at hinv
  cases D
  ·rw [if_neg (by simp), addPt] at hinv
   have HQ := hI hinv
   clear hinv hke
   go_wp2_with (at_builtin; refine wpList_append_at elemInts rfl _ _ rfl w.heap.size _ kf _ rfl HOWN.out _ 1 1 rfl ?e0 rfl ?e1 ?e2 ?e3 ?e4 ?_)
   case e0 => simp
   case e1 => simp [Value.oneCell']
   case e2 => unfold maxLen; omega
   case e3 => omega
   try (case e4 => omega)
   intro v8 w8 hown8 hc8 hw8
   have HO := hI (own_snoc HKF.out hown8)
   have HXW := hI (hc8.ext HX.out (fun y hy => (HOWN.out.lt y (mem_rowOf.1 hy)).1))
   obtain ⟨fa, fc, e, hints⟩ := ints_own (M := []) HO.out (fun k _ => by simp)
   subst e
   rw [HQ.out] at hints
   have HI2 := hI hints
   have HLQ := hI (show (f ++ [x]).length = kf + 1 by rw [List.length_append, <- HKF.out]; rfl)
   have HL2 := hI (show (addPt l x).length = kf + 1 by rw [<- HQ.out]; exact HLQ.out)
   rw [HLQ.out]
   rw [HL2.out] at HI2
   clear hown8 hc8 hw8 hints
   go_wp2_with fail
   go_ret
   exact ⟨fa, fc, (by rw [HL2.out]; try rfl), by rw [HL2.out]; exact HI2.out.mono (mask_sub _ _), HXW.out⟩
  rw [if_pos rfl, List.append_nil] at hinv
  have HQ := hI hinv
  have HL2 := hI (show (addPt l x).length = kf by rw [<- HQ.out]; exact HKF.out.symm)
  have ho := HOWN.out
  rw [HKF.out] at ho
  obtain ⟨fa, fc, e, hints⟩ := ints_own (M := []) ho (fun k _ => by simp)
  subst e
  rw [<- HKF.out] at hints ⊢
  have HI2 := hI hints
  clear ho hints hinv hke
  go_wp2_with fail
  go_ret
  refine ⟨fa, fc, (by rw [HL2.out]; try rfl), ?_, HX.out⟩
  rw [HL2.out, <- HQ.out]
  exact HI2.out.mono (mask_sub _ _)
end Go.Proofs.YtefjomofjejklaaGreat
