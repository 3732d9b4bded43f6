/-
  Texts of the claim, joined: World11, Dual, PSup, Spl0, Spoil, PSnd, PrArg2.
-/
import Derived.Test.YtpkljcgihobaiaaGreatDoorSo27
namespace Go.Proofs.YtpkljcgihobaiaaGreatDoor
set_option maxRecDepth 100000
set_option maxHeartbeats 32000000
open Go.RowKit
theorem deck_lowW {w0 w : World} {bd : Nat} (h : DeckAt w0 w bd) : w0.heap.size <= bd := by obtain ⟨_, _, _, _, _, _, _, _, _, h⟩ := h; exact h
theorem IsWorld.lnl {w : World} {s : List Attr} {l : List Cla} {x : Ex} {f : ZI} {v : WorldV} (h : IsWorld w s l x f v) : v.ln <= 6 := by
 obtain ⟨vs, hr, hl, -⟩ := h.clas
 have := h.len
 have := hr.1
 omega
theorem IsWorld.in11 {w : World} {s : List Attr} {l : List Cla} {x : Ex} {f : ZI} {v : WorldV} (h : IsWorld w s l x f v) (ho : HasOps w) {e : Ex} {ev : Value} (he : IsEx w e ev) (h1 : e.few) (h2 : e.fits) (h3 : e.slim) {g : ZI} {ga : OA} {gn : Nat} (hg : IsIntF w g ga gn) (hgn : gn <= 1000000000000000) : In11 w s l e g (.agg #[.slice v.sa v.sn v.sc]) ev v.la v.ln v.lc ga gn :=
 ⟨h.sch, attrs_fits h.mem, Nat.le_trans (schemas_ok s h.mem).2.2 (by omega), h.clas, by have := h.lnl; omega, h.cfit, he, h1, h2, h3, hg, hgn, ho⟩
theorem IsWorld.own11 {w : World} {s : List Attr} {l : List Cla} {x : Ex} {f : ZI} {v : WorldV} (h : IsWorld w s l x f v) (ho : HasOps w) : In11 w s l x f (.agg #[.slice v.sa v.sn v.sc]) v.x.val v.la v.ln v.lc v.fa v.fn :=
 h.in11 ho h.ex h.okay.few h.okay.fits (slim_of_size _ (by have := h.okay.size; simp [bndS] at this; omega)) h.ints (by have := h.fnl; omega)
theorem okNode_fits11 {e : Ex} (h : okNode e) : e.name.size <= 1000000000000000 /\ (∀ x ∈ e.words, x.size <= 1000000000000000) /\ e.words.length <= 1000000000000000 := by
 have key : ∀ {s : BA}, nameB s = true -> s.size <= 1000000000000000 := fun h => by have := nameB_size h; omega
 have k0 : ∀ {s : BA}, s = ⟨#[]⟩ -> s.size <= 1000000000000000 := fun h => by subst h; decide
 have kw : ∀ {l : ZB}, l = [] -> (∀ x ∈ l, x.size <= 1000000000000000) /\ l.length <= 1000000000000000 := fun h => by subst h; simp
 rcases h with ⟨h1, h2, h3, _⟩ | ⟨h1, h2, h3, _⟩ | ⟨h1, h2, h3, _⟩ | ⟨h1, h2, h3, _⟩ | ⟨h1, h2, h3, _⟩ | ⟨h1, h2, h3, _⟩ | ⟨h1, h2, h3, _⟩
 ·exact ⟨k0 h2, kw h3⟩
 ·exact ⟨k0 h2, kw h3⟩
 ·exact ⟨key h2, kw h3⟩
 ·simp only [wordsB, Bool.and_eq_true, decide_eq_true_eq, List.all_eq_true] at h3
  exact ⟨key h2, fun x hx => key (h3.1.2 x hx), by have := h3.1.1.2; omega⟩
 ·exact ⟨key h2, kw h3⟩
 ·exact ⟨k0 h2, kw h3⟩
 exact ⟨k0 h2, kw h3⟩
theorem fits_mk11 {e : Ex} (h1 : e.name.size <= 1000000000000000) (h2 : ∀ x ∈ e.words, x.size <= 1000000000000000) (h3 : ∀ x ∈ e.args, x.fits) : e.fits := by
 cases e with
 | mk op name words lo hi args =>
  unfold Ex.fits
  refine ⟨h1, h2, ?_⟩
  simp only [Ex.args] at h3
  clear h1 h2
  induction args with
  | nil => unfold fitsAll; trivial
  | cons a r ih => unfold fitsAll; exact ⟨h3 a (by simp), ih (fun x hx => h3 x (List.mem_cons_of_mem _ hx))⟩
theorem few_mk11 {e : Ex} (h2 : e.words.length <= 1000000000000000) (h3 : ∀ x ∈ e.args, x.few) : e.few := by
 cases e with
 | mk op name words lo hi args =>
  unfold Ex.few
  refine ⟨h2, ?_⟩
  simp only [Ex.args] at h3
  clear h2
  induction args with
  | nil => unfold fewAll; trivial
  | cons a r ih => unfold fewAll; exact ⟨h3 a (by simp), ih (fun x hx => h3 x (List.mem_cons_of_mem _ hx))⟩
theorem okTree_fits11 (m : Nat) : ∀ e : Ex, e.size <= m -> okTree e -> e.fits /\ e.few := by
 induction m with
 | zero => intro e h; have := e.size_eq; omega
 | succ m ih =>
  intro e hm hok
  obtain ⟨hn, ha⟩ := okTree_parts hok
  obtain ⟨h1, h2, h3⟩ := okNode_fits11 hn
  have hs : ∀ x ∈ e.args, x.fits /\ x.few := fun x hx => ih x (by have := sizes_mem hx; have := e.size_eq; omega) (ha x hx)
  exact ⟨fits_mk11 h1 h2 (fun x hx => (hs x hx).1), few_mk11 h3 (fun x hx => (hs x hx).2)⟩
theorem tree_fits {e : Ex} (h : okTree e) : e.fits := (okTree_fits11 e.size e (Nat.le_refl _) h).1
theorem tree_few {e : Ex} (h : okTree e) : e.few := (okTree_fits11 e.size e (Nat.le_refl _) h).2
theorem dual_eval {s : List Attr} {l : List Cla} {D S X : Nat} {e : Ex} (ht : Term s l D S X e) (hD : D <= 16) (hS : S <= 300) (hX : X <= 2000) (hc : (clausesErr s l).2 = 0) {g : ZI} (hg : factsAll s g = true) {W : World} {x : Ex} {f : ZI} {v : WorldV} (hw : IsWorld W s l x f v) (ho : HasOps W) {ev : Value} (he : IsEx W e ev) {ga : OA} {gn gc : Nat} (hi : IsIntF W g ga gn) (hn : gn <= 1000) :
  Calls Tryz.prog 25 #[.agg #[.slice v.sa v.sn v.sc], .slice v.la v.ln v.lc, ev, .slice ga gn gc] W (GivesE (.tuple #[.bool (val s l g e), .int .i64 0]) W) := by
 have ho11 := ht.ok (f := g) hD hS hX hc hg
 have hsz := ho11.size
 have := eval_calls s l e g _ _ _ _ v.lc _ _ gc W (hw.in11 ho he (tree_few ho11.tree) (tree_fits ho11.tree) (slim_of_size _ (by omega)) hi (by omega))
 unfold evalV evalB at this
 rw [ho11.err, if_pos rfl] at this
 exact this
theorem IsWorld.dproof {w0 w : World} {bd : Nat} {s : List Attr} {l : List Cla} {x : Ex} {f : ZI} {v : WorldV} (hw : IsWorld (mask w [bd]) s l x f v) (hd : DeckAt w0 w bd) (M : ZN) (hM : ∀ y ∈ M, y < w.heap.size) :
  Calls Tryz.prog 17 #[.pointer (some ⟨bd, 0, none⟩), .agg #[.slice v.sa v.sn v.sc], .slice v.la v.ln v.lc, v.x.val, .slice v.fa v.fn v.fc] w (DPrQ (fun p => prv s l f x p = true /\ p.few 1000000) w0 bd M w) :=
 dproof_calls s l f hw.ok.chk hw.facts (attrs_fits hw.mem) v.la v.ln v.lc v.fa v.fn v.fc v.sa v.sn v.sc w0 bd (l.length + 1) 300 x v.x.val M w hw.ok.size (by omega) hw.ok.tree hw.ok.node hw.ok.exp hM hd ⟨hw.sch, hw.clas, hw.ints⟩ hw.ex
theorem IsWorld.verify {W : World} {s : List Attr} {l : List Cla} {x : Ex} {f : ZI} {v : WorldV} (hw : IsWorld W s l x f v) (ho : HasOps W) {p : Pr} {pv : PrV} (hp : IsPr W p pv) :
  Calls Tryz.prog 18 #[.agg #[.slice v.sa v.sn v.sc], .slice v.la v.ln v.lc, v.x.val, .slice v.fa v.fn v.fc, pv.val] W (GivesE (.bool (prv s l f x p)) W) := by
 have := verified_calls s l x f p pv _ _ _ _ v.lc _ _ v.fc W (hw.own11 ho) hp
 unfold verB at this
 rw [hw.ok.err, if_pos rfl] at this
 exact this
theorem IsWorld.eval {W : World} {s : List Attr} {l : List Cla} {x : Ex} {f : ZI} {v : WorldV} (hw : IsWorld W s l x f v) (ho : HasOps W) :
  Calls Tryz.prog 25 #[.agg #[.slice v.sa v.sn v.sc], .slice v.la v.ln v.lc, v.x.val, .slice v.fa v.fn v.fc] W (GivesE (.tuple #[.bool (val s l f x), .int .i64 0]) W) :=
 dual_eval hw.term (by omega) (by omega) (by omega) hw.cls hw.facts hw ho hw.ex hw.ints hw.fnl
theorem prv_val {s : List Attr} {l : List Cla} {f : ZI} {e : Ex} {p : Pr} (h : prv s l f e p = true) : p.value = val s l f e := prvF_sound s l f (l.length + 1) e p h
theorem few_mono {N N' : Nat} (hN : N <= N') {p : Pr} (h : p.few N) : p.few N' := by
 induction h with
 | mk hn _ ih => exact .mk (Nat.le_trans hn hN) ih
theorem few_set {N : Nat} {v : Bool} {k : Int} {ps : List Pr} (hn : ps.length <= N) (h : ∀ q ∈ ps, q.few N) {i : Nat} {q : Pr} (hq : q.few (N + 1)) : (Pr.mk v k (ps.set i q)).few (N + 1) :=
 .mk (by simp; omega) fun x hx => by
  rcases List.mem_or_eq_of_mem_set hx with hx | rfl
  ·exact few_mono (Nat.le_succ N) (h x hx)
  exact hq
theorem rows_news {w : World} {vs : List PrV} {a : OA} {n c : Nat} (h : IsRows w 3 PrV.cells vs a n c) (hn : 0 < n) : ∃ b off, a = some ⟨b, off, none⟩ /\ ∀ j (hj : j < (vs.flatMap PrV.cells).length), w.cell? ⟨b, off + j, none⟩ = some (vs.flatMap PrV.cells)[j] := by
 obtain ⟨b, off, rfl, _⟩ := h.2.2.2 0 (by have := h.1; omega)
 refine ⟨b, off, rfl, fun j hj => ?_⟩
 have hlen := length_flatMap_of PrV.cells 3 PrV.len vs
 have hi : j / 3 < vs.length := by omega
 obtain ⟨b', off', e3, hc⟩ := h.2.2.2 (j / 3) hi
 simp only [Option.some.injEq, Addr.mk.injEq, and_true] at e3
 obtain ⟨rfl, rfl⟩ := e3
 have h6 := hc (j % 3) (by rw [PrV.len]; omega)
 rw [show off + j / 3 * 3 + j % 3 = off + j by omega] at h6
 rw [h6]
 have := flatMap_at PrV.cells 3 PrV.len vs (j / 3) hi (j % 3) (by rw [PrV.len]; omega)
 rw [show j / 3 * 3 + j % 3 = j by omega, List.getElem?_eq_getElem hj] at this
 exact this.symm
theorem cells_onePr (xs : List PrV) : ∀ u ∈ xs.flatMap PrV.cells, u.oneCell' = true := by
 intro u hu
 obtain ⟨x, _, hx⟩ := List.mem_flatMap.1 hu
 simp only [PrV.cells, List.mem_cons, List.not_mem_nil, or_false] at hx
 rcases hx with rfl | rfl | rfl <;> rfl
def put3at (w : World) (B o : Nat) (x : PrV) : World := ((w.setCell ⟨B, o, none⟩ (.bool x.value)).setCell ⟨B, o + 1, none⟩ (.int .i64 x.pick)).setCell ⟨B, o + 2, none⟩ (.slice x.a x.n x.c)
theorem put3at_chg (w : World) (B o : Nat) (x : PrV) {N : ZN} (h : B ∈ N) : Chg N w (put3at w B o x) := by
 unfold put3at
 repeat (with_reducible (refine Chg.setCell ?_ ?_ _))
 exact Chg.refl _ _
 all_goals exact Or.inl h
theorem put3at_cell {w : World} {B o : Nat} {x : PrV} {c : Array Value} {t : TypeId} (h : w.heap[B]? = some (.cells c t (0, 0))) (hs : o + 3 <= c.size) (j : Nat) : (put3at w B o x).cell? ⟨B, j, none⟩ = if o <= j /\ j < o + 3 then x.cells[j - o]? else c[j]? := by
 have hb : (put3at w B o x).heap[B]? = some (.cells (((c.setIfInBounds o (.bool x.value)).setIfInBounds (o + 1) (.int .i64 x.pick)).setIfInBounds (o + 2) (.slice x.a x.n x.c)) t (0, 0)) := by
  unfold put3at
  rw [heap_setCell_same _ _ _ _ _ _ (heap_setCell_same _ _ _ _ _ _ (heap_setCell_same _ _ _ _ _ _ h))]
 rw [blk_cell hb]
 simp only [Array.getElem?_setIfInBounds, Array.size_setIfInBounds]
 by_cases hj : o <= j /\ j < o + 3
 ·rw [if_pos hj]
  obtain ⟨i, rfl⟩ : ∃ i, j = o + i := ⟨j - o, by omega⟩
  rw [Nat.add_sub_cancel_left]
  have hi : i = 0 \/ i = 1 \/ i = 2 := by omega
  rcases hi with rfl | rfl | rfl
  all_goals simp [PrV.cells]
  all_goals omega
 rw [if_neg hj, if_neg (by omega), if_neg (by omega), if_neg (by omega)]
theorem sp_row {w w5 W6 W : World} {bd be B g kk n cap : Nat} {M : ZN} {l : List Pr} {xs : List PrV} {cur : Array Value} {q' : Pr} {v' : PrV} {t : TypeId}
  (hR : PrsR (mask w M) l xs) (hbM : bd ∈ M) (hxl : xs.length = n) (hgb : w5.heap[g]? = some (.cells cur t (0, 0))) (hgc : ∀ j, j < n * 3 -> cur[j]? = (xs.flatMap PrV.cells)[j]?) (hk3 : kk * 3 + 3 <= cur.size) (hkx : kk < xs.length)
  (hP : W6 = put3at w5 g (kk * 3) v') (hcb : Chg [be] W6 W) (hc : Chg [bd] w w5) (hq' : IsPr (mask w5 (([be, B, g] : ZN) ++ M)) q' v') (hbe : be = w.heap.size) (hB : B = w.heap.size + 1) (hg : g ≠ be /\ g ≠ B /\ w.heap.size <= g /\ g < w5.heap.size) (hM : ∀ y ∈ M, y < w.heap.size) (hcap : n <= cap) (b : Bool) (k : Int) :
  IsPr (mask W (B :: M)) (.mk b k (l.set kk q')) ⟨b, k, some ⟨g, 0, none⟩, n, cap⟩ := by
 subst hbe hB
 obtain ⟨hg1, hg2, hg4, hg5⟩ := hg
 have hPc : Chg [g] w5 W6 := by rw [hP]; exact put3at_chg _ _ _ _ (by simp)
 have hPcell := put3at_cell (x := v') hgb hk3
 rw [<- hP] at hPcell
 have hgN : g ∉ (w.heap.size + 1) :: M := fun h => by
  simp only [List.mem_cons] at h
  rcases h with h | h
  ·omega
  have := hM g h; omega
 refine .mk (xs.set kk v') ⟨by simp [hxl], hcap, Or.inr ⟨g, 0, rfl⟩, fun i h2 => ⟨g, 0, rfl, fun j hj => ?_⟩⟩ (by simp [hR.1]) fun i h1 h2 => ?_
 ·have hj3 : j < 3 := by rw [PrV.len] at hj; exact hj
  have hi : i < xs.length := by simpa using h2
  rw [mask_cell, if_neg hgN, hcb.cell' (by simp; omega) (by simp only; have := hPc.size; omega), hPcell]
  by_cases hik : i = kk
  ·subst hik
   rw [if_pos (by omega)]
   simp only [List.getElem_set_self]
   rw [show 0 + i * 3 + j - i * 3 = j by omega, List.getElem?_eq_getElem (by rw [PrV.len]; exact hj3)]
  rw [if_neg (by omega)]
  simp only [List.getElem_set_ne (fun h => hik (Eq.symm h))]
  rw [hgc (0 + i * 3 + j) (by omega)]
  have hq := flatMap_at PrV.cells 3 PrV.len xs i hi j (by rw [PrV.len]; exact hj3)
  rw [Nat.zero_add, hq]
 by_cases hik : i = kk
 ·subst hik
  simp only [List.getElem_set_self]
  refine hq'.mono (mask_sub_mask fun y hy hn => ?_)
  simp only [List.mem_cons, List.mem_append, not_or, List.not_mem_nil, or_false] at hn ⊢
  exact ⟨⟨hn.1.2.1, hn.2⟩, (hcb.block y (Nat.lt_of_lt_of_le hy hPc.size) (by simpa using hn.1.1)).trans (hPc.block y hy (by simpa using hn.1.2.2))⟩
 simp only [List.getElem_set_ne (fun h => hik (Eq.symm h))]
 refine (hR.2 i (by simpa using h1) (by simpa using h2)).mono (mask_sub_mask fun y hy hn => ?_)
 have h6 := hPc.size
 have h7 := hc.size
 have hyb : y ∉ [bd] := fun h => hn (by simp only [List.mem_singleton] at h; rw [h]; exact hbM)
 simp only [List.mem_cons, not_or]
 exact ⟨⟨by omega, hn⟩, (hcb.block y (by omega) (by simp; omega)).trans ((hPc.block y (by omega) (by simp; omega)).trans (hc.block y hy hyb))⟩
theorem prs_parts {w : World} {v : Bool} {k : Int} {ps : List Pr} {pv : PrV} (h : IsPr w (.mk v k ps) pv) : ∃ (vs : List PrV), pv = ⟨v, k, pv.a, pv.n, pv.c⟩ /\ IsRows w 3 PrV.cells vs pv.a pv.n pv.c /\ PrsR w ps vs := by
 cases h with
 | mk vs hr hl h => exact ⟨vs, rfl, hr, hl.symm, h⟩
theorem sub_newM {w W : World} {bd : Nat} {M N : ZN} (h : Chg [bd] w W) (hb : bd ∈ M) (hn : ∀ y ∈ N, w.heap.size <= y) : Sub (mask w M) (mask W (N ++ M)) := mask_sub_mask fun k hk hm =>
 ⟨fun h' => by
  rcases List.mem_append.1 h' with h' | h'
  ·have := hn k h'; omega
  exact hm h', h.block k hk (fun h' => hm (by simp only [List.mem_singleton] at h'; rw [h']; exact hb))⟩
theorem sub_spoil {w w2 W : World} {bd be : Nat} {M : ZN} (h : Chg [bd] w w2) (hc : Chg [be] w2 W) (hb : bd ∈ M) (_hM : ∀ y ∈ M, y < w.heap.size) (hbe : be = w.heap.size) : Sub (mask w M) (mask W ((be + 1) :: M)) := mask_sub_mask fun k hk hm =>
 ⟨fun h' => by
  rcases List.mem_cons.1 h' with h' | h'
  ·omega
  exact hm h', (hc.block k (Nat.lt_of_lt_of_le hk h.size) (fun h' => by simp only [List.mem_singleton] at h'; omega)).trans (h.block k hk (fun h' => hm (by simp only [List.mem_singleton] at h'; rw [h']; exact hb)))⟩
theorem isPr_take {w : World} {v : Bool} {k : Int} {ps : List Pr} {xs : List PrV} {a : OA} {n c : Nat} (hr : IsRows w 3 PrV.cells xs a n c) (hp : PrsR w ps xs) {m : Nat} (hm : m <= n) : IsPr w (.mk v k (ps.take m)) ⟨v, k, a, m, c⟩ := by
 refine .mk (xs.take m) ⟨by rw [List.length_take]; have := hr.1; omega, Nat.le_trans hm hr.2.1, hr.2.2.1, fun i hi => ?_⟩ (by rw [List.length_take, List.length_take, hp.1]) fun i h1 h2 => ?_
 ·have h3 : i < xs.length := by rw [List.length_take] at hi; omega
  obtain ⟨b, off, e, hc⟩ := hr.2.2.2 i h3
  refine ⟨b, off, e, fun j hj => ?_⟩
  simp only [List.getElem_take] at hj ⊢
  exact hc j hj
 simp only [List.getElem_take]
 exact hp.2 i _ _
def SpDo (N : Nat) (p : Pr) : Prop := ∀ (pv : PrV) (w0 w : World) (bd : Nat) (M : ZN), DeckAt w0 w bd -> IsPr (mask w M) p pv -> bd ∈ M -> (∀ y ∈ M, y < w.heap.size) ->
 Calls Tryz.prog 21 #[.pointer (some ⟨bd, 0, none⟩), pv.val] w (DPrQ (fun q => q.few (N + 1)) w0 bd M w)
def SpF (w0 w W : World) (be bd N : Nat) (M : ZN) (vb : Bool) (kb : Int) (ab : OA) (nb cb : Nat) (psb : List Pr) : Prop := W.heap[be]? = some (.cells #[.bool vb, .int .i64 kb, .slice ab nb cb] 40 (0, 0)) /\ IsPr (mask W ((be + 1) :: M)) (.mk vb kb psb) ⟨vb, kb, ab, nb, cb⟩ /\ Chg [bd] w W /\ DeckAt w0 W bd /\ W.heap[be + 1]? = some prZero /\ (Pr.mk vb kb psb).few (N + 1)
theorem sp_step {N : Nat} {v : Bool} {k : Int} {ps : List Pr} (hN : N <= 2000000) (hn : ps.length <= N) (hch : ∀ q ∈ ps, q.few N) (ih : ∀ q ∈ ps, SpDo N q) : SpDo N (.mk v k ps) := by
 intro pv w0 w bd M hd hp hbM hM
 obtain ⟨xs, epv, hrows, hprs⟩ := prs_parts hp
 obtain ⟨pb, pk, a, n, c⟩ := pv
 simp only [PrV.mk.injEq] at epv
 obtain ⟨rfl, rfl, -⟩ := epv
 simp only at hrows
 have h0w : w0.heap.size <= w.heap.size := by obtain ⟨_, _, _, _, _, _, _, _, hx, _⟩ := hd; exact hx.size
 have h0d : w0.heap.size <= bd := by obtain ⟨_, _, _, _, _, _, _, _, _, h⟩ := hd; exact h
 have hbd : bd < w.heap.size := hd.lt
 have hxl : xs.length = n := hrows.1.symm
 have HXL := hI hxl
 have hpn1 : ps.length <= n := by rw [hprs.1, hxl]; omega
 have hpn2 : n <= ps.length := by rw [hprs.1, hxl]; omega
 have hncap := hrows.2.1
 have hnN : n <= N := by omega
 have HIH := hI ih
 have HCH := hI hch
 have HP0 := hI hp
 have HR := hI hprs
 have HRW := hI hrows
 have HBM := hI hbM
 have HM := hI hM
 have HLEN := hI (show (xs.flatMap PrV.cells).length = n * 3 by rw [length_flatMap_of PrV.cells 3 PrV.len, hxl])
 have hxl1 : xs.length <= n := by omega
 have hxl2 : n <= xs.length := by omega
 clear hxl
 unfold PrV.val
 obtain ⟨wb, hwb⟩ : ∃ wb, wb = (w.alloc (.cells #[.bool pb, .int .i64 pk, .slice a n c] 40)).alloc (.cells #[.bool false, .int .i64 0, .slice none 0 0] 40) := ⟨_, rfl⟩
 have hxw : Ext w wb := by rw [hwb]; exact ((Ext.refl w).alloc _).alloc _
 obtain ⟨be, hbe0⟩ : ∃ be : Nat, be = w.heap.size := ⟨_, rfl⟩
 have hbe : wb.heap[be]? = some (.cells #[.bool pb, .int .i64 pk, .slice a n c] 40 (0, 0)) := by rw [hwb, hbe0]; exact blk_alloc (alloc_new w _)
 have hbr : wb.heap[be + 1]? = some prZero := by rw [hwb, hbe0]; exact alloc_atR (by simp)
 have HDW := hI (hd.ext hxw)
 have HXW := hI hxw
 have HBE := hI hbe
 have HBR := hI hbr
 have HB0 := hI hbe0
 obtain ⟨b0, b1, b2, bf⟩ := blk3 hbe
 have hle := blk_lt hbe
 have hlr := blk_lt hbr
 have hbe1 : be <= w.heap.size := by omega
 have hbe2 : w.heap.size <= be := by omega
 clear ih hM hd hp hch hprs hrows hbM hxw hbr hbe
 go_enter Tryz.func21, Tryz.ntmps21
 go_upto_region 1 with fail
 rw [<- hwb, <- hbe0]
 clear hwb hbe0
 go_cut [15] (fun s15 wx => ∃ c : Bool, s15 = .bool c /\ (c = true -> 0 < n) /\ Chg [bd] wb wx /\ DeckAt w0 wx bd)
 case first =>
  by_cases hp : 0 < n
  ·have t1 : decide (0 < (n : Int)) = true := by simp; omega
   have t2 : decide (0 < n) = true := by simp; omega
   go_wp2_with fail
   refine (next_calls HDW.out _ (by omega) (by omega)).mono ?_
   rintro r w1 ⟨r1, rfl, hr0, hr1, hd1, hc1⟩
   have HD1 := hI hd1
   have HC1 := hI hc1
   clear hd1 hc1 b0 b1 b2 bf
   go_wp2_with fail
   go_meet
   case rel => exact ⟨_, rfl, fun _ => hp, HC1.out, HD1.out⟩
  have t1 : decide (0 < (n : Int)) = false := by simp; omega
  have t2 : decide (0 < n) = false := by simp; omega
  go_wp2_with fail
  go_meet
  case rel => exact ⟨false, rfl, fun h => by simp at h, Chg.refl _ _, HDW.out⟩
 case rest =>
 obtain ⟨cc, rfl, hcn, hc1, hd1⟩ := hcut
 clear b0 b1 b2 bf
 have HCW := hI (show Chg [bd] w wc from ((HXW.out.chg [bd]).then hc1))
 have HBE := hI (hc1.blk HBE.out (by simp; omega))
 have HBR := hI (hc1.blk HBR.out (by simp; omega))
 have HD1 := hI hd1
 have HCN := hI hcn
 have hz1 := hc1.size
 clear hc1 hd1 hcn HDW HXW
 cases cc
 case' true =>
  have hnp : 0 < n := HCN.out rfl
  clear HCN
  obtain ⟨b0, b1, b2, bf⟩ := blk3 HBE.out
  go_wp2_with fail
  refine (next_calls HD1.out _ (by omega) (by omega)).mono ?_
  rintro r w2 ⟨q, rfl, hq0, hq1, hd2, hc2⟩
  obtain ⟨kk, rfl⟩ : ∃ k : Nat, q = (k : Int) := ⟨q.toNat, by omega⟩
  have hkn : kk < n := by omega
  have HCW := hI (HCW.out.then hc2)
  have HBE := hI (hc2.blk HBE.out (by simp; omega))
  have HBR := hI (hc2.blk HBR.out (by simp; omega))
  have HD2 := hI hd2
  have hz2 := hc2.size
  clear hc2 hd2 HD1 b0 b1 b2 bf
  obtain ⟨b0, b1, b2, bf⟩ := blk3 HBE.out
  have hl2 := blk_lt HBR.out
  have hlE := blk_lt HBE.out
  have HSL := hI (show 0 < n -> ∃ b off, a = some ⟨b, off, none⟩ /\ ∀ j (hj : j < (xs.flatMap PrV.cells).length), (w2.alloc (.cells #[] 40)).cell? ⟨b, off + j, none⟩ = some (xs.flatMap PrV.cells)[j] from fun h => by
   obtain ⟨b, off, e1, e2⟩ := rows_news HRW.out h
   exact ⟨b, off, e1, fun j hj => mask_sub _ _ _ _ (mask_step (HCW.out.alloc (.cells #[] 40)) HBM.out _ _ (e2 j hj))⟩)
  go_wp2_with (at_builtin; refine wpList_append_all elemPr rfl _ _ rfl w2.heap.size _ 0 [] rfl ?o0 a n c (xs.flatMap PrV.cells) rfl ?o1 ?o2 ?o3 ?o4 ?o5 ?o6 ?_)
  case o0 => exact World.ownsRow_lit w2 #[] 0 (Nat.le_refl _) (by simp) rfl
  case o1 => exact HLEN.out
  case o2 => exact fun h => HSL.out h
  case o3 => exact cells_onePr xs
  case o4 => omega
  case o5 => omega
  case o6 => simp
  intro v3 w3 hown3 hgrow3 hat3
  have HCA := hI (show Chg [bd] w w3 from (HCW.out.alloc _).grown hgrow3 (fun y hy => by simp only [Value.ownBlock] at hy; injection hy with hy; subst hy; exact Or.inr (by omega)))
  have hrn : ∀ k, k < w2.heap.size -> k ∉ rowOf (.slice (some ⟨w2.heap.size, 0, none⟩) 0 0) := fun k hk hm => by have := mem_rowOf.1 hm; simp only [Value.ownBlock] at this; injection this with this; omega
  have HBE := hI ((grown_chg hgrow3).blk (blk_alloc HBE.out) (hrn _ (by omega)))
  have HBR := hI ((grown_chg hgrow3).blk (blk_alloc HBR.out) (hrn _ (by omega)))
  have HD3 := hI ((HD2.out.ext ((Ext.refl w2).alloc _)).chg (grown_chg hgrow3) (hrn _ (by omega)) (fun y hy => by have := mem_rowOf.1 hy; simp only [Value.ownBlock] at this; injection this with this; omega))
  have HO3 := hI hown3
  have hz3 := hgrow3.size
  simp at hz3
  clear hown3 hgrow3 hat3 hrn b0 b1 b2 bf hl2 hlE
  obtain ⟨g, cap, cur, hv3, hg1, hgb, hgn, hgc, hcapn⟩ : ∃ g cap cur, v3 = .slice (some ⟨g, 0, none⟩) n cap /\ w2.heap.size <= g /\ w3.heap[g]? = some (.cells cur 40 (0, 0)) /\ n * 3 <= cur.size /\ (∀ j, j < n * 3 -> cur[j]? = (xs.flatMap PrV.cells)[j]?) /\ n <= cap := by
   have h := HO3.out
   rcases h.2 with ⟨_, h0⟩ | ⟨g, cap, cur, h1, h2, h3, h4, h5, h6, h7⟩
   ·omega
   have hq : n <= cap := by simpa using h4
   refine ⟨g, cap, cur, by simpa using h1, h2, h3, ?_, fun j hj => ?_, hq⟩
   ·rw [h6]
    omega
   have h8 := congrArg (fun l => l[j]?) h7
   try simp only [Nat.zero_add] at h8
   rw [List.getElem?_take, if_pos hj] at h8
   simpa using h8
  subst hv3
  have HGC := hI hgc
  have hgl := blk_lt hgb
  have hk3 : kk * 3 + 3 <= cur.size := by omega
  have hkx : kk < xs.length := by omega
  have hkp : kk < ps.length := by omega
  have HCK := hI (show ∀ j, j < 3 -> cur[kk * 3 + j]? = xs[kk].cells[j]? from fun j hj => by
   have h1 := HGC.out (kk * 3 + j) (by omega)
   rw [h1, flatMap_at PrV.cells 3 PrV.len xs kk hkx j (by rw [PrV.len]; exact hj), List.getElem?_eq_getElem (by rw [PrV.len]; exact hj)])
  have HGB := hI hgb
  have hsub := sub_newM (M := M) (N := [be, be + 1, g]) HCA.out HBM.out (by simp; omega)
  have HC := hI (HIH.out ps[kk] (List.getElem_mem hkp) xs[kk] w0 w3 bd ([be, be + 1, g] ++ M) HD3.out ((HR.out.2 kk hkp hkx).mono hsub) (List.mem_append_right _ HBM.out) (fun y hy => by
   rcases List.mem_append.1 hy with hy | hy
   ·simp at hy; omega
   have := HM.out y hy; omega))
  have c0 : w3.cell? ⟨g, kk * 3, none⟩ = some (.bool xs[kk].value) := by rw [blk_cell hgb]; have := HCK.out 0 (by omega); simpa [PrV.cells] using this
  have c1 : w3.cell? ⟨g, kk * 3 + 1, none⟩ = some (.int .i64 xs[kk].pick) := by rw [blk_cell hgb]; have := HCK.out 1 (by omega); simpa [PrV.cells] using this
  have c2 : w3.cell? ⟨g, kk * 3 + 2, none⟩ = some (.slice xs[kk].a xs[kk].n xs[kk].c) := by rw [blk_cell hgb]; have := HCK.out 2 (by omega); simpa [PrV.cells] using this
  unfold PrV.val at HC
  clear hgb hgc hsub
  go_wp2_with fail
  refine HC.out.mono ?_
  rintro r w5 ⟨q', v', rfl, hok', he', hd5, hc5⟩
  have HOK5 := hI hok'
  have HE5 := hI he'
  have HD5 := hI hd5
  have HC5 := hI hc5
  have hgbd : g ∉ [bd] := by simp; omega
  have HGB5 := hI (hc5.blk HGB.out hgbd)
  have HBE5 := hI (hc5.blk HBE.out (by simp; omega))
  have HBR5 := hI (hc5.blk HBR.out (by simp; omega))
  have hz5 := hc5.size
  have cf : ∀ j, w5.frozen? ⟨g, j, none⟩ = false := fun j => frozen_of_row w5 g j cur _ HGB5.out
  clear hok' he' hd5 hc5 c0 c1 c2 HC hgbd
  have c0 : w5.cell? ⟨g, kk * 3, none⟩ = some (.bool xs[kk].value) := by rw [blk_cell HGB5.out]; have := HCK.out 0 (by omega); simpa [PrV.cells] using this
  have c1 : w5.cell? ⟨g, kk * 3 + 1, none⟩ = some (.int .i64 xs[kk].pick) := by rw [blk_cell HGB5.out]; have := HCK.out 1 (by omega); simpa [PrV.cells] using this
  have c2 : w5.cell? ⟨g, kk * 3 + 2, none⟩ = some (.slice xs[kk].a xs[kk].n xs[kk].c) := by rw [blk_cell HGB5.out]; have := HCK.out 2 (by omega); simpa [PrV.cells] using this
  unfold PrV.val
  go_upto_region 5 with fail
  obtain ⟨W6, hW6⟩ : ∃ W6, W6 = put3at w5 g (kk * 3) v' := ⟨_, rfl⟩
  have HW6 := hI hW6
  have HP6 := hI (show Chg [g] w5 W6 by rw [hW6]; exact put3at_chg _ _ _ _ (by simp))
  unfold put3at at hW6
  rw [<- hW6]
  have HBE6 := hI (HP6.out.blk HBE5.out (by simp; omega))
  have HBR6 := hI (HP6.out.blk HBR5.out (by simp; omega))
  have hz6 := HP6.out.size
  clear hW6 c0 c1 c2 cf
  obtain ⟨b0, b1, b2, bf⟩ := blk3 HBE6.out
  go_upto_region 6 with fail
  obtain ⟨W7, hW7⟩ : ∃ W7, W7 = W6.setCell ⟨be, 2, none⟩ (.slice (some ⟨g, 0, none⟩) n cap) := ⟨_, rfl⟩
  have HCB := hI (show Chg [be] W6 W7 by rw [hW7]; exact put_chg _ _ _ _)
  have HBE7 := hI (show W7.heap[be]? = some (.cells #[.bool pb, .int .i64 pk, .slice (some ⟨g, 0, none⟩) n cap] 40 (0, 0)) by rw [hW7]; have := put_blk (i := 2) HBE6.out (.slice (some ⟨g, 0, none⟩) n cap); simpa using this)
  rw [<- hW7]
  clear hW7 b0 b1 b2 bf
  have HROW := hI (sp_row (be := be) (B := be + 1) (t := 40) HR.out HBM.out HXL.out HGB5.out HGC.out hk3 hkx HW6.out HCB.out (HCA.out.then HC5.out) HE5.out HB0.out (by rw [HB0.out]) ⟨by omega, by omega, by omega, by omega⟩ HM.out hcapn pb pk)
  have HC7 := hI (show Chg [bd] w W7 from ((HCA.out.then HC5.out).trans HP6.out (by intro y hy; simp at hy; subst hy; exact Or.inr (by omega))).trans HCB.out (by intro y hy; simp at hy; subst hy; exact Or.inr (by omega)))
  have HD7 := hI (show DeckAt w0 W7 bd from (HD5.out.chg HP6.out (by simp; omega) (by simp; omega)).chg HCB.out (by simp; omega) (by simp; omega))
  have HBR7 := hI (HCB.out.blk HBR6.out (by simp))
  have HFW := hI (few_set (v := pb) (k := pk) hn HCH.out (i := kk) HOK5.out)
  obtain ⟨vb, kb, ab, nb, cb, psb, HF⟩ : ∃ vb kb ab nb cb psb, RowKit.Hid (SpF w0 w W7 be bd N M vb kb ab nb cb psb) := ⟨pb, pk, some ⟨g, 0, none⟩, n, cap, ps.set kk q', Lib.hid ⟨HBE7.out, HROW.out, HC7.out, HD7.out, HBR7.out, HFW.out⟩⟩
  clear HBE7 HROW HC7 HD7 HBR7 HFW HCB
 case' false =>
  clear HCN
  go_wp2_with fail
  refine (next_calls HD1.out _ (by omega) (by omega)).mono ?_
  rintro r w2 ⟨q4, rfl, hr0, hr4, hd2, hc2⟩
  have HC2 := hI (HCW.out.then hc2)
  have HBE2 := hI (hc2.blk HBE.out (by simp; omega))
  have HBR2 := hI (hc2.blk HBR.out (by simp; omega))
  have HD2 := hI hd2
  have HP2 := hI (HP0.out.mono (mask_step HC2.out HBM.out))
  have hz2 := HC2.out.size
  have hbw2 : be + 1 < w2.heap.size := blk_lt HBR2.out
  clear hd2 hc2 HD1 HCW HBE HBR
  have hq4 : q4 = 0 \/ q4 = 1 \/ q4 = 2 \/ q4 = 3 := by omega
  clear hr0 hr4
  rcases hq4 with rfl | rfl | rfl | rfl
  case' inl =>
   obtain ⟨b0, b1, b2, bf⟩ := blk3 HBE2.out
   obtain ⟨W7, hW7⟩ : ∃ W7, W7 = w2.setCell ⟨be, 0, none⟩ (.bool !pb) := ⟨_, rfl⟩
   have HCB := hI (show Chg [be] w2 W7 by rw [hW7]; exact put_chg _ _ _ _)
   have HBE7 := hI (show W7.heap[be]? = some (.cells #[.bool !pb, .int .i64 pk, .slice a n c] 40 (0, 0)) by rw [hW7]; have := put_blk (i := 0) HBE2.out (.bool !pb); simpa using this)
   go_upto_region 16 with fail
   rw [<- hW7]
   clear hW7 b0 b1 b2 bf
   have HROW := hI (show IsPr (mask W7 ((be + 1) :: M)) (.mk (!pb) pk ps) ⟨!pb, pk, a, n, c⟩ from IsPr.mk xs (HRW.out.mono (sub_spoil HC2.out HCB.out HBM.out HM.out HB0.out)) HR.out.1.symm (fun i h1 h2 => (HR.out.2 i h1 h2).mono (sub_spoil HC2.out HCB.out HBM.out HM.out HB0.out)))
   have HC7 := hI (show Chg [bd] w W7 from HC2.out.trans HCB.out (by intro y hy; simp at hy; subst hy; exact Or.inr (by omega)))
   have HD7 := hI (show DeckAt w0 W7 bd from HD2.out.chg HCB.out (by simp; omega) (by simp; omega))
   have HBR7 := hI (HCB.out.blk HBR2.out (by simp))
   have HFW := hI (show (Pr.mk (!pb) pk ps).few (N + 1) from .mk (by omega) (fun x hx => few_mono (Nat.le_succ N) (HCH.out x hx)))
   obtain ⟨vb, kb, ab, nb, cb, psb, HF⟩ : ∃ vb kb ab nb cb psb, RowKit.Hid (SpF w0 w W7 be bd N M vb kb ab nb cb psb) := ⟨!pb, pk, a, n, c, ps, Lib.hid ⟨HBE7.out, HROW.out, HC7.out, HD7.out, HBR7.out, HFW.out⟩⟩
   clear HBE7 HROW HC7 HD7 HBR7 HFW HCB
  case' inr.inl =>
   go_wp2_with fail
   refine (range_calls HD2.out (-2) 3 (by omega) (by omega) (by omega)).mono ?_
   rintro r w4 ⟨z, rfl, hq0, hq1, hd4, hc4⟩
   have HD4 := hI hd4
   have HC4 := hI (HC2.out.then hc4)
   have HBE4 := hI (hc4.blk HBE2.out (by simp; omega))
   have HBR4 := hI (hc4.blk HBR2.out (by simp; omega))
   have hz4 := HC4.out.size
   clear hd4 hc4 hq0 hq1 HD2 HC2 HBE2 HBR2 HP2
   obtain ⟨b0, b1, b2, bf⟩ := blk3 HBE4.out
   obtain ⟨W7, hW7⟩ : ∃ W7, W7 = w4.setCell ⟨be, 1, none⟩ (.int .i64 z) := ⟨_, rfl⟩
   have HCB := hI (show Chg [be] w4 W7 by rw [hW7]; exact put_chg _ _ _ _)
   have HBE7 := hI (show W7.heap[be]? = some (.cells #[.bool pb, .int .i64 z, .slice a n c] 40 (0, 0)) by rw [hW7]; have := put_blk (i := 1) HBE4.out (.int .i64 z); simpa using this)
   go_upto_region 16 with fail
   rw [<- hW7]
   clear hW7 b0 b1 b2 bf
   have HROW := hI (show IsPr (mask W7 ((be + 1) :: M)) (.mk pb z ps) ⟨pb, z, a, n, c⟩ from IsPr.mk xs (HRW.out.mono (sub_spoil HC4.out HCB.out HBM.out HM.out HB0.out)) HR.out.1.symm (fun i h1 h2 => (HR.out.2 i h1 h2).mono (sub_spoil HC4.out HCB.out HBM.out HM.out HB0.out)))
   have HC7 := hI (show Chg [bd] w W7 from HC4.out.trans HCB.out (by intro y hy; simp at hy; subst hy; exact Or.inr (by omega)))
   have HD7 := hI (show DeckAt w0 W7 bd from HD4.out.chg HCB.out (by simp; omega) (by simp; omega))
   have HBR7 := hI (HCB.out.blk HBR4.out (by simp))
   have HFW := hI (show (Pr.mk pb z ps).few (N + 1) from .mk (by omega) (fun x hx => few_mono (Nat.le_succ N) (HCH.out x hx)))
   obtain ⟨vb, kb, ab, nb, cb, psb, HF⟩ : ∃ vb kb ab nb cb psb, RowKit.Hid (SpF w0 w W7 be bd N M vb kb ab nb cb psb) := ⟨pb, z, a, n, c, ps, Lib.hid ⟨HBE7.out, HROW.out, HC7.out, HD7.out, HBR7.out, HFW.out⟩⟩
   clear HBE7 HROW HC7 HD7 HBR7 HFW HCB
  case' inr.inr.inl =>
   obtain ⟨b0, b1, b2, bf⟩ := blk3 HBE2.out
   have hlE := blk_lt HBE2.out
   have hl2 := blk_lt HBR2.out
   have HSL := hI (show 0 < n -> ∃ b off, a = some ⟨b, off, none⟩ /\ ∀ j (hj : j < (xs.flatMap PrV.cells).length), (w2.alloc (.cells #[] 40)).cell? ⟨b, off + j, none⟩ = some (xs.flatMap PrV.cells)[j] from fun h => by
    obtain ⟨b, off, e1, e2⟩ := rows_news HRW.out h
    exact ⟨b, off, e1, fun j hj => mask_sub _ _ _ _ (mask_step (HC2.out.alloc (.cells #[] 40)) HBM.out _ _ (e2 j hj))⟩)
   go_wp2_with (at_builtin; refine wpList_append_all elemPr rfl _ _ rfl w2.heap.size _ 0 [] rfl ?o0 a n c (xs.flatMap PrV.cells) rfl ?o1 ?o2 ?o3 ?o4 ?o5 ?o6 ?_)
   case o0 => exact World.ownsRow_lit w2 #[] 0 (Nat.le_refl _) (by simp) rfl
   case o1 => exact HLEN.out
   case o2 => exact fun h => HSL.out h
   case o3 => exact cells_onePr xs
   case o4 => omega
   case o5 => omega
   case o6 => simp
   intro v3 w3 hown3 hgrow3 hat3
   have HCA := hI (show Chg [bd] w w3 from (HC2.out.alloc _).grown hgrow3 (fun y hy => by simp only [Value.ownBlock] at hy; injection hy with hy; subst hy; exact Or.inr (by omega)))
   have hrn : ∀ k, k < w2.heap.size -> k ∉ rowOf (.slice (some ⟨w2.heap.size, 0, none⟩) 0 0) := fun k hk hm => by have := mem_rowOf.1 hm; simp only [Value.ownBlock] at this; injection this with this; omega
   have HBE3 := hI ((grown_chg hgrow3).blk (blk_alloc HBE2.out) (hrn _ (by omega)))
   have HBR3 := hI ((grown_chg hgrow3).blk (blk_alloc HBR2.out) (hrn _ (by omega)))
   have HD3 := hI ((HD2.out.ext ((Ext.refl w2).alloc _)).chg (grown_chg hgrow3) (hrn _ (by omega)) (fun y hy => by have := mem_rowOf.1 hy; simp only [Value.ownBlock] at this; injection this with this; omega))
   have HO3 := hI hown3
   have HAT := hI (show ∀ k, v3.ownBlock = some k -> w2.heap.size <= k /\ k < w3.heap.size from fun k hk => World.ownsRow.lt hown3 k hk)
   have hz3 := hgrow3.size
   simp at hz3
   clear hown3 hgrow3 hat3 hrn b0 b1 b2 bf hl2 hlE HBE2 HBR2 HD2 HC2
   obtain ⟨b0, b1, b2, bf⟩ := blk3 HBE3.out
   have hlE := blk_lt HBE3.out
   have HCL := hI (cell_allocs w3 (PrV.cells ⟨false, -1, none, 0, 0⟩) 40)
   go_wp2_with (at_builtin; refine wpList_append_all elemPr rfl _ _ rfl w2.heap.size v3 (0 + n) ([] ++ xs.flatMap PrV.cells) rfl ?o0 (some ⟨w3.heap.size, 0, none⟩) 1 1 (PrV.cells ⟨false, -1, none, 0, 0⟩) rfl ?o1 ?o2 ?o3 ?o4 ?o5 ?o6 ?_)
   case o0 => simpa using World.ownsRow.alloc HO3.out _
   case o1 => rfl
   case o2 => exact fun _ => ⟨_, 0, rfl, HCL.out⟩
   case o5 => omega
   case o3 => exact fun u hu => cells_onePr [⟨false, -1, none, 0, 0⟩] u (by simpa using hu)
   case o4 => omega
   case o6 => simp; omega
   intro v5 w5 hown5 hgrow5 hat5
   have HC5 := hI (show Chg [bd] w w5 from (HCA.out.alloc _).grown hgrow5 (fun y hy => Or.inr (by have := HAT.out y hy; omega)))
   have hrn : ∀ k, k < w2.heap.size -> k ∉ rowOf v3 := fun k hk hm => by have := HAT.out k (mem_rowOf.1 hm); omega
   have HBE5 := hI ((grown_chg hgrow5).blk (blk_alloc HBE3.out) (hrn _ (by omega)))
   have HBR5 := hI ((grown_chg hgrow5).blk (blk_alloc HBR3.out) (hrn _ (by omega)))
   have HD5 := hI ((HD3.out.ext ((Ext.refl w3).alloc _)).chg (grown_chg hgrow5) (hrn _ (by omega)) (fun y hy => by have := HAT.out y (mem_rowOf.1 hy); omega))
   have HO5 := hI (show w5.ownsRow w2.heap.size 40 3 v5 (ps ++ [Pr.mk false (-1) []]).length ((xs ++ [(⟨false, -1, none, 0, 0⟩ : PrV)]).flatMap PrV.cells) by
    have e1 : (ps ++ [Pr.mk false (-1) []]).length = 0 + n + 1 := by simp; omega
    rw [e1, List.flatMap_append]
    simpa using hown5)
   have hz5 := HC5.out.size
   have hlt5 := blk_lt HBR5.out
   clear hown5 hgrow5 hat5 hrn b0 b1 b2 bf hlE HBE3 HBR3 HD3 HCA HCL HO3
   obtain ⟨a6, c6, hv5⟩ := owns_formG HO5.out
   subst hv5
   have HO5 := hI HO5.out
   obtain ⟨n6, hn6⟩ : ∃ n6 : Nat, n6 = (ps ++ [Pr.mk false (-1) []]).length := ⟨_, rfl⟩
   have HN6 := hI hn6
   rw [<- hn6] at HO5 ⊢
   clear hn6
   obtain ⟨b0, b1, b2, bf⟩ := blk3 HBE5.out
   obtain ⟨W7, hW7⟩ : ∃ W7, W7 = w5.setCell ⟨be, 2, none⟩ (.slice a6 n6 c6) := ⟨_, rfl⟩
   have HCB := hI (show Chg [be] w5 W7 by rw [hW7]; exact put_chg _ _ _ _)
   have HBE7 := hI (show W7.heap[be]? = some (.cells #[.bool pb, .int .i64 pk, .slice a6 n6 c6] 40 (0, 0)) by rw [hW7]; have := put_blk (i := 2) HBE5.out (.slice a6 n6 c6); simpa using this)
   go_upto_region 16 with fail
   rw [<- hW7]
   clear hW7 b0 b1 b2 bf
   have HROW := hI (show IsPr (mask W7 ((be + 1) :: M)) (.mk pb pk (ps ++ [Pr.mk false (-1) []])) ⟨pb, pk, a6, n6, c6⟩ from by
       have hcc : Chg [be] w5 W7 := HCB.out
       have hown6 := owns_chg HO5.out hcc (fun k hk => by have := (World.ownsRow.lt HO5.out k hk).1; simp; omega)
       rw [HN6.out] at hown6
       obtain ⟨a', c', he, hip⟩ := prs_owns (M := (be + 1) :: M) hown6 (fun k hk hm => by
        have h1 := (World.ownsRow.lt HO5.out k (by rw [HN6.out]; exact hk)).1
        simp only [List.mem_cons] at hm
        rcases hm with hm | hm
        ·omega
        have := HM.out k hm; omega) ((HR.out.mono (sub_spoil HC5.out HCB.out HBM.out HM.out HB0.out)).snoc (isPr_none _ false (-1))) pb pk
       simp only [Value.slice.injEq, true_and] at he
       obtain ⟨rfl, rfl⟩ := he
       rw [HN6.out]
       exact hip)
   have HC7 := hI (show Chg [bd] w W7 from HC5.out.trans HCB.out (by intro y hy; simp at hy; subst hy; exact Or.inr (by omega)))
   have HD7 := hI (show DeckAt w0 W7 bd from HD5.out.chg HCB.out (by simp; omega) (by simp; omega))
   have HBR7 := hI (HCB.out.blk HBR5.out (by simp))
   have HFW := hI (show (Pr.mk pb pk (ps ++ [Pr.mk false (-1) []])).few (N + 1) from .mk (by simp; omega) (fun x hx => by
       rcases List.mem_append.1 hx with hx | hx
       ·exact few_mono (Nat.le_succ N) (HCH.out x hx)
       simp only [List.mem_singleton] at hx; subst hx; exact .mk (by simp) (by simp)))
   obtain ⟨vb, kb, ab, nb, cb, psb, HF⟩ : ∃ vb kb ab nb cb psb, RowKit.Hid (SpF w0 w W7 be bd N M vb kb ab nb cb psb) := ⟨pb, pk, a6, n6, c6, ps ++ [Pr.mk false (-1) []], Lib.hid ⟨HBE7.out, HROW.out, HC7.out, HD7.out, HBR7.out, HFW.out⟩⟩
   clear HBE7 HROW HC7 HD7 HBR7 HFW HCB
  case' inr.inr.inr =>
   obtain ⟨b0, b1, b2, bf⟩ := blk3 HBE2.out
   obtain ⟨W7, hW7⟩ : ∃ W7, W7 = w2.setCell ⟨be, 2, none⟩ (.slice a (n - 1) c) := ⟨_, rfl⟩
   have HCB := hI (show Chg [be] w2 W7 by rw [hW7]; exact put_chg _ _ _ _)
   have HBE7 := hI (show W7.heap[be]? = some (.cells #[.bool pb, .int .i64 pk, .slice a (n - 1) c] 40 (0, 0)) by rw [hW7]; have := put_blk (i := 2) HBE2.out (.slice a (n - 1) c); simpa using this)
   go_upto_region 16 with fail
   rw [show (max ((n : Int) - 1) 0).toNat = n - 1 by omega]
   rw [<- hW7]
   clear hW7 b0 b1 b2 bf
   have HROW := hI (show IsPr (mask W7 ((be + 1) :: M)) (.mk pb pk (ps.take (n - 1))) ⟨pb, pk, a, n - 1, c⟩ from isPr_take (HRW.out.mono (sub_spoil HC2.out HCB.out HBM.out HM.out HB0.out)) (HR.out.mono (sub_spoil HC2.out HCB.out HBM.out HM.out HB0.out)) (by omega))
   have HC7 := hI (show Chg [bd] w W7 from HC2.out.trans HCB.out (by intro y hy; simp at hy; subst hy; exact Or.inr (by omega)))
   have HD7 := hI (show DeckAt w0 W7 bd from HD2.out.chg HCB.out (by simp; omega) (by simp; omega))
   have HBR7 := hI (HCB.out.blk HBR2.out (by simp))
   have HFW := hI (show (Pr.mk pb pk (ps.take (n - 1))).few (N + 1) from .mk (by rw [List.length_take]; omega) (fun x hx => few_mono (Nat.le_succ N) (HCH.out x (List.mem_of_mem_take hx))))
   obtain ⟨vb, kb, ab, nb, cb, psb, HF⟩ : ∃ vb kb ab nb cb psb, RowKit.Hid (SpF w0 w W7 be bd N M vb kb ab nb cb psb) := ⟨pb, pk, a, n - 1, c, ps.take (n - 1), Lib.hid ⟨HBE7.out, HROW.out, HC7.out, HD7.out, HBR7.out, HFW.out⟩⟩
   clear HBE7 HROW HC7 HD7 HBR7 HFW HCB
 all_goals
  obtain ⟨h1, h2, h3, h4, h5, h6⟩ := HF.out
  have HFW := hI h6
  have HBE7 := hI h1
  have hz : W7.heap[be + 1]? = some (.cells #[.bool false, .int .i64 0, .slice none 0 0] 40 (0, 0)) := h5
  obtain ⟨r0, r1, r2, rf⟩ := blk3 hz
  have hltr := blk_lt hz
  have HZ := hI (dprove_fin (w := w) (M := M) (pv := ⟨vb, kb, ab, nb, cb⟩) h5 (by omega) h0w (by omega) h4 h3 h2)
  simp only at HZ
  clear h1 h2 h3 h4 h5 h6 hz HF
  obtain ⟨b0, b1, b2, bf⟩ := blk3 HBE7.out
  go_wp2_with fail
  obtain ⟨wz, hwz⟩ : ∃ wz, wz = put3 W7 (be + 1) (.bool vb) (.int .i64 kb) (.slice ab nb cb) := ⟨_, rfl⟩
  rw [<- hwz] at HZ
  unfold put3 at hwz
  rw [<- hwz]
  clear hwz
  obtain ⟨z0, z1, z2, zf⟩ := blk3 HZ.out.1
  refine bodyPost_ret (v := PrV.val ⟨vb, kb, ab, nb, cb⟩) (by simp [results, Tryz.results21, go_sem, PrV.val, z0, z1, z2]) rfl ?_
  exact ⟨_, _, rfl, HFW.out, HZ.out.2⟩
theorem spoil_calls {N : Nat} (hN : N <= 2000000) {p : Pr} (hf : p.few N) : SpDo N p := by
 induction hf with
 | mk hn h ih => exact sp_step hN hn h ih
def SndL (T : Int) (b6 b9 b11 bq bd : Nat) (Z6 Z9 : Obj) (wa w5 : World) (i : Value) (wr : World) : Prop := ∃ (k : Nat) (q : Pr) (qv : PrV), i = .int .i64 k /\ (k : Int) <= T /\ q.few (1000000 + k) /\ IsPr (mask wr [b11, bq, bd]) q qv /\ wr.heap[b11]? = some (.cells #[.bool qv.value, .int .i64 qv.pick, .slice qv.a qv.n qv.c] 40 (0, 0)) /\ DeckAt wa wr bq /\ Chg [b11, bq] w5 wr /\ wr.heap[b6]? = some Z6 /\ wr.heap[b9]? = some Z9
theorem ints_extS {w w' : World} {a : OA} {n : Nat} (h : IntsAt w a n) (hx : Ext w w') : IntsAt w' a n := fun i hi => by obtain ⟨b, off, z, e, hc⟩ := h i hi; exact ⟨b, off, z, e, hx.cell hc⟩
theorem prv_other {s : List Attr} {l : List Cla} {f : ZI} {e : Ex} {k : Int} {ps : List Pr} : prv s l f e (.mk (!val s l f e) k ps) = false := by
 cases h : prv s l f e (.mk (!val s l f e) k ps)
 ·rfl
 have := prv_val h
 simp [Pr.value] at this
theorem sound_calls (da : OA) (dn dc : Nat) (oa : OA) (on oc : Nat) (a0 : Pr) (v0 : PrV) (times : Int) (w : World) (h1 : IntsAt w da dn) (hd1 : dn <= 1000000000000000) (h2 : IntsAt w oa on) (hd2 : on <= 1000000000000000) (hp : IsPr w a0 v0) (_ : a0.fit) (ht : (Lit.int .u8 times).wf = true) (ho : HasOps w) :
  Calls Tryz.prog 9 #[.slice da dn dc, .slice oa on oc, v0.val, .int .u8 times] w (GivesE (.bool true) w) := by
 have htr : 0 <= times /\ times <= 255 := by
  simp only [Lit.wf, Bool.and_eq_true, decide_eq_true_eq] at ht
  exact ht
 obtain ⟨ht0, ht1⟩ := htr
 obtain ⟨pb0, pk0, pa0, pn0, pc0⟩ := v0
 have HO := hI ho
 have HP0 := hI hp
 have HI2 := hI h2
 obtain ⟨wa, hwa⟩ : ∃ wa, wa = w.alloc (.cells #[.bool pb0, .int .i64 pk0, .slice pa0 pn0 pc0] 40) := ⟨_, rfl⟩
 obtain ⟨b6, hb6⟩ : ∃ b6 : Nat, b6 = w.heap.size := ⟨_, rfl⟩
 have hxa : Ext w wa := by rw [hwa]; exact (Ext.refl _).alloc _
 have HB6 := hI (show wa.heap[b6]? = some (.cells #[.bool pb0, .int .i64 pk0, .slice pa0 pn0 pc0] 40 (0, 0)) by rw [hwa, hb6]; exact alloc_new w _)
 have HXA := hI hxa
 have HMA := hI (made11_calls da dn dc wa (ints_extS h1 hxa) hd1)
 clear ho hp h1 h2 ht hxa
 unfold PrV.val
 go_enter Tryz.func9, Tryz.ntmps9
 go_upto_region 1 with fail
 rw [<- hwa, <- hb6]
 clear hwa hb6
 go_wp2_with fail
 refine HMA.out.mono ?_
 rintro e w1 ⟨s, l, x, f, v, bd, rfl, hiw, hdk, hx1⟩
 have HIW := hI hiw
 have HDK := hI hdk
 have HX1 := hI hx1
 have hbl := hdk.lt
 have hlow := deck_lowW hdk
 clear hiw hdk hx1 HMA
 unfold WorldV.val
 go_upto_region 2 with fail
 obtain ⟨b9, hb9⟩ : ∃ b9, b9 = w1.heap.size := ⟨_, rfl⟩
 obtain ⟨w2, hw2⟩ : ∃ w2, w2 = w1.alloc (.cells #[.slice v.sa v.sn v.sc, .slice v.la v.ln v.lc, .int .i64 v.x.op, .string v.x.name, .slice v.x.aw v.x.nw v.x.cw, .int .i64 v.x.lo, .int .i64 v.x.hi, .slice v.x.aa v.x.na v.x.ca, .slice v.fa v.fn v.fc] 34) := ⟨_, rfl⟩
 have hx2 : Ext w1 w2 := by rw [hw2]; exact (Ext.refl _).alloc _
 have HB2 := hI (show w2.heap[b9]? = some (.cells #[.slice v.sa v.sn v.sc, .slice v.la v.ln v.lc, .int .i64 v.x.op, .string v.x.name, .slice v.x.aw v.x.nw v.x.cw, .int .i64 v.x.lo, .int .i64 v.x.hi, .slice v.x.aa v.x.na v.x.ca, .slice v.fa v.fn v.fc] 34 (0, 0)) by rw [hw2, hb9]; exact alloc_new w1 _)
 have HLT := hI (show b6 < wa.heap.size /\ wa.heap.size <= bd /\ bd < b9 from ⟨blk_lt HB6.out, hlow, by omega⟩)
 rw [<- hw2, <- hb9]
 clear hw2 hb9 hbl hlow
 have HIW2 := hI (HIW.out.mono (mask_ext _ hx2))
 have HDK2 := hI (HDK.out.ext hx2)
 have HX2 := hI (HX1.out.trans hx2)
 clear hx2 HIW HDK HX1
 obtain ⟨c0, c1, c2, c3, c4, c5, c6, c7, c8, cf⟩ := blk9 HB2.out
 have HDP := hI (HIW2.out.dproof HDK2.out [bd] (by have := HDK2.out.lt; simpa using this))
 unfold ExV.val exV at HDP
 go_wp2_with fail
 refine HDP.out.mono ?_
 rintro e w3 ⟨p, pv, rfl, hpp, hip, hd3, hc3⟩
 have HFW := hI hpp.2
 have HIP3 := hI hip
 have HIW3 := hI (HIW2.out.mono (mask_step hc3 (by simp)))
 have HDK3 := hI hd3
 have HB3 := hI (hc3.blk HB2.out (by have := HLT.out; simp; omega))
 have HX3 := hI (hc3.ext HX2.out (by have := HLT.out; simp; omega))
 have hz3 := blk_lt HB3.out
 clear hpp hip hd3 hc3 c0 c1 c2 c3 c4 c5 c6 c7 c8 cf HDP HIW2 HDK2 HB2 HX2
 obtain ⟨pb, pk, pa, pn, pc⟩ := pv
 unfold PrV.val
 go_upto_region 3 with fail
 obtain ⟨b11, hb11⟩ : ∃ b11 : Nat, b11 = w3.heap.size := ⟨_, rfl⟩
 obtain ⟨w4, hw4⟩ : ∃ w4, w4 = w3.alloc (.cells #[.bool pb, .int .i64 pk, .slice pa pn pc] 40) := ⟨_, rfl⟩
 have hx4 : Ext w3 w4 := by rw [hw4]; exact (Ext.refl _).alloc _
 have HBP := hI (show w4.heap[b11]? = some (.cells #[.bool pb, .int .i64 pk, .slice pa pn pc] 40 (0, 0)) by rw [hw4, hb11]; exact alloc_new w3 _)
 have HL1 := hI (show b9 < b11 /\ w3.heap.size <= b11 from ⟨by omega, by omega⟩)
 rw [<- hw4, <- hb11]
 clear hw4 hb11 hz3
 have HNB := hI (new_callsB oa on oc wa w4 (ints_extS HI2.out HXA.out) (HX3.out.trans hx4) hd2)
 go_wp2_with fail
 refine HNB.out.mono ?_
 rintro e w5 ⟨bq, rfl, hdq, hx5, hbq⟩
 have hx45 := hx4.trans hx5
 have HL2 := hI (show b11 < bq by have := blk_lt HBP.out; omega)
 have HDQ := hI hdq
 have HB5 := hI (hx45.blk HB3.out)
 have HBP5 := hI (hx5.blk HBP.out)
 have HDK5 := hI (HDK3.out.ext hx45)
 have HIW5 := hI (show IsWorld (mask w5 [b11, bq, bd]) s l x f v from HIW3.out.mono (sub_newM (N := [b11, bq]) (hx45.chg [bd]) (by simp) (by have := HL1.out; have := HL2.out; simp; omega)))
 have HB65 := hI ((HX3.out.trans hx45).blk HB6.out)
 have HX5 := hI (HX3.out.trans hx45)
 have HIP5 := hI (show IsPr (mask w5 [b11, bq, bd]) p ⟨pb, pk, pa, pn, pc⟩ from HIP3.out.mono (sub_newM (N := [b11, bq]) (hx45.chg [bd]) (by simp) (by have := HL1.out; have := HL2.out; simp; omega)))
 clear hdq hx5 hbq hx4 hx45 HNB HBP HB3 HIW3 HDK3 HX3 HIP3
 obtain ⟨T, hT⟩ : ∃ T : Int, T = times % 6 := ⟨_, rfl⟩
 have hT0 : 0 <= T := by omega
 have hT5 : T <= 5 := by omega
 have hmod : times.tmod 6 = T := by rw [hT, Int.tmod_eq_emod_of_nonneg ht0]
 clear hT
 go_wp2_with fail
 go_loopw [13] (SndL T b6 b9 b11 bq bd (.cells #[.bool pb0, .int .i64 pk0, .slice pa0 pn0 pc0] 40 (0, 0)) (.cells #[.slice v.sa v.sn v.sc, .slice v.la v.ln v.lc, .int .i64 v.x.op, .string v.x.name, .slice v.x.aw v.x.nw v.x.cw, .int .i64 v.x.lo, .int .i64 v.x.hi, .slice v.x.aa v.x.na v.x.ca, .slice v.fa v.fn v.fc] 34 (0, 0)) wa w5) (fun i _ => 6 - (intOf i).toNat)
 case atStart => exact ⟨0, p, ⟨pb, pk, pa, pn, pc⟩, rfl, hT0, HFW.out, HIP5.out, HBP5.out, HDQ.out, Chg.refl _ _, HB65.out, HB5.out⟩
 case round =>
  obtain ⟨k, q, qv, rfl, hk, hfw, hiq, hbp, hdq, hcr, hb6, hb9⟩ := hrel
  have HFQ := hI hfw
  have HIQ := hI hiq
  have HQB := hI hbp
  have HQD := hI hdq
  have HCR := hI hcr
  have HC6 := hI hb6
  have HC9 := hI hb9
  obtain ⟨qb, qk, qa, qn, qc⟩ := qv
  simp only at HQB
  obtain ⟨p0, p1, p2, pf'⟩ := blk3 HQB.out
  clear hfw hiq hbp hdq hcr hb6 hb9 HIP5 HBP5 HDQ HB65 HB5 HFW
  by_cases hkT : (k : Int) < T
  ·have t1 : decide ((k : Int) < T) = true := decide_eq_true hkT
   have HSP := hI (spoil_calls (N := 1000000 + k) (by omega) HFQ.out ⟨qb, qk, qa, qn, qc⟩ wa wr bq [b11, bq, bd] HQD.out HIQ.out (by simp) (by have := blk_lt HQB.out; have := HQD.out.lt; have := HL1.out; have := HLT.out; simp; omega))
   unfold PrV.val at HSP
   go_wp2_with fail
   refine HSP.out.mono ?_
   rintro e w6 ⟨q', v', rfl, hfw', hiq', hdq', hcq'⟩
   have HFQ' := hI hfw'
   have HQD' := hI hdq'
   have HCQ' := hI hcq'
   have HQB' := hI (hcq'.blk HQB.out (by have := HL2.out; simp; omega))
   have HIQ' := hI hiq'
   clear hfw' hiq' hdq' hcq' p0 p1 p2 pf' HSP
   obtain ⟨qb', qk', qa', qn', qc'⟩ := v'
   unfold PrV.val
   obtain ⟨W7, hW7⟩ : ∃ W7, W7 = put3 w6 b11 (.bool qb') (.int .i64 qk') (.slice qa' qn' qc') := ⟨_, rfl⟩
   have HCB := hI (show Chg [b11] w6 W7 by rw [hW7]; exact put3_chg w6 b11 (.bool qb') (.int .i64 qk') (.slice qa' qn' qc') (by simp))
   have HB7 := hI (show W7.heap[b11]? = some (.cells #[.bool qb', .int .i64 qk', .slice qa' qn' qc'] 40 (0, 0)) by rw [hW7]; exact put3_blk HQB'.out _ _ _)
   obtain ⟨p0, p1, p2, pf'⟩ := blk3 HQB'.out
   unfold put3 at hW7
   go_upto_region 6 with fail
   rw [<- hW7]
   clear hW7 p0 p1 p2 pf'
   have HIQ7 := hI (HIQ'.out.mono (mask_chg HCB.out (by simp)))
   have HQD7 := hI (HQD'.out.chg HCB.out (by have := HL2.out; simp; omega) (by have := HL1.out; have := HLT.out; simp; omega))
   have HC7 := hI (show Chg [b11, bq] w5 W7 from (HCR.out.then (HCQ'.out.weak (by simp))).then (HCB.out.weak (by simp)))
   have HC67 := hI (HCB.out.blk (HCQ'.out.blk HC6.out (by have := HL1.out; have := HL2.out; have := HLT.out; simp; omega)) (by have := HL1.out; have := HL2.out; have := HLT.out; simp; omega))
   have HC97 := hI (HCB.out.blk (HCQ'.out.blk HC9.out (by have := HL1.out; have := HL2.out; have := HLT.out; simp; omega)) (by have := HL1.out; have := HL2.out; have := HLT.out; simp; omega))
   go_wp2_with fail
   go_roundw
   case rel => exact ⟨k + 1, q', ⟨qb', qk', qa', qn', qc'⟩, by go_num, by omega, HFQ'.out, HIQ7.out, HB7.out, HQD7.out, HC7.out, HC67.out, HC97.out⟩
   case measure => simp [intOf]; omega
  have t1 : decide ((k : Int) < T) = false := decide_eq_false hkT
  have hxr : Ext wa wr := by obtain ⟨_, _, _, _, _, _, _, _, hxw, _⟩ := HQD.out; exact hxw
  have HXR := hI (HXA.out.trans hxr)
  have HWR := hI (show IsWorld (mask wr [bd]) s l x f v from (HIW5.out.mono (mask_chg HCR.out (by simp))).mono (mask_less _ (by simp)))
  have HDR := hI (HDK5.out.chg HCR.out (by have := HLT.out; have := HL1.out; have := HL2.out; simp; omega) (by have := HLT.out; have := HL1.out; have := HL2.out; simp; omega))
  obtain ⟨V, hV⟩ : ∃ V, V = val s l f x := ⟨_, rfl⟩
  obtain ⟨B1, hB1⟩ : ∃ B1, B1 = prv s l f x a0 := ⟨_, rfl⟩
  obtain ⟨B2, hB2⟩ : ∃ B2, B2 = prv s l f x q := ⟨_, rfl⟩
  have hA : B1 = true -> V = pb0 := fun h => by rw [hV, <- prv_val (hB1.symm.trans h)]; exact HP0.out.parts.1.symm
  have hB : B2 = true -> V = qb := fun h => by rw [hV, <- prv_val (hB2.symm.trans h)]; exact HIQ.out.parts.1.symm
  have HEV := hI ((HWR.out.mono (mask_sub _ _)).eval (HO.out.ext HXR.out))
  have HV1 := hI (fun W (hW : Ext wr W) => ((HWR.out.mono (mask_sub _ _)).mono hW.sub).verify ((HO.out.ext HXR.out).ext hW) ((HP0.out.ext HXR.out).ext hW))
  have HV2 := hI (fun W (hW : Ext wr W) => ((HWR.out.mono (mask_sub _ _)).mono hW.sub).verify ((HO.out.ext HXR.out).ext hW) ((HIQ.out.mono (mask_sub _ _)).ext hW))
  rw [<- hV] at HEV
  rw [<- hB1] at HV1
  rw [<- hB2] at HV2
  have HV := hI hV
  have HA := hI hA
  have HB := hI hB
  unfold PrV.val ExV.val exV at *
  clear hV hB1 hB2 hA hB hxr HIW5 HDK5 HCR HIQ
  obtain ⟨c0, c1, c2, c3, c4, c5, c6, c7, c8, cf⟩ := blk9 HC9.out
  go_wp2_with fail
  refine HEV.out.mono ?_
  rintro e w8 ⟨rfl, hx8⟩
  have HX8 := hI hx8
  have HC68 := hI (hx8.blk HC6.out)
  have HC98 := hI (hx8.blk HC9.out)
  have HCB8 := hI (hx8.blk HQB.out)
  clear hx8 c0 c1 c2 c3 c4 c5 c6 c7 c8 cf p0 p1 p2 pf' HEV HC6 HC9 HQB
  obtain ⟨c0, c1, c2, c3, c4, c5, c6, c7, c8, cf⟩ := blk9 HC98.out
  obtain ⟨r0, r1, r2, rf⟩ := blk3 HC68.out
  go_wp2_with fail
  refine (HV1.out w8 HX8.out).mono ?_
  rintro e w9 ⟨rfl, hx9⟩
  have HX9 := hI (HX8.out.trans hx9)
  have HC69 := hI (hx9.blk HC68.out)
  have HC99 := hI (hx9.blk HC98.out)
  have HCB9 := hI (hx9.blk HCB8.out)
  clear hx9 c0 c1 c2 c3 c4 c5 c6 c7 c8 cf r0 r1 r2 rf HX8 HC68 HC98 HCB8 HV1
  obtain ⟨c0, c1, c2, c3, c4, c5, c6, c7, c8, cf⟩ := blk9 HC99.out
  obtain ⟨r0, r1, r2, rf⟩ := blk3 HC69.out
  obtain ⟨p0, p1, p2, pf'⟩ := blk3 HCB9.out
  cases B1
  case' true => have hA := HA.out rfl; subst hA
  all_goals
   go_wp2_with fail
   refine (HV2.out w9 HX9.out).mono ?_
   rintro e w10 ⟨rfl, hx10⟩
   have HX10 := hI (HX9.out.trans hx10)
   have HC910 := hI (hx10.blk HC99.out)
   have HCB10 := hI (hx10.blk HCB9.out)
   clear hx10 c0 c1 c2 c3 c4 c5 c6 c7 c8 cf r0 r1 r2 rf p0 p1 p2 pf' HX9 HC69 HC99 HCB9 HV2
   obtain ⟨c0, c1, c2, c3, c4, c5, c6, c7, c8, cf⟩ := blk9 HC910.out
   obtain ⟨p0, p1, p2, pf'⟩ := blk3 HCB10.out
  all_goals cases B2
  all_goals try (have hB := HB.out rfl; subst hB)
  all_goals
   go_upto_region 11 with fail
   have HW10 := hI (HWR.out.mono (mask_ext _ HX10.out))
   have HD10 := hI (HDR.out.ext HX10.out)
   have HDP := hI (HW10.out.dproof HD10.out [bd] (by have := HD10.out.lt; simpa using this))
   unfold ExV.val exV at HDP
   clear p0 p1 p2 pf'
   go_wp2_with fail
   refine HDP.out.mono ?_
   rintro e w11 ⟨o, ov, rfl, hoo, hio, hd11, hc11⟩
   have HC911 := hI (hc11.blk HC910.out (by have := HLT.out; simp; omega))
   have HW11 := hI ((HW10.out.mono (mask_step hc11 (by simp))).mono (mask_sub _ _))
   have HX11 := hI (show Ext w w11 by obtain ⟨_, _, _, _, _, _, _, _, hxw, _⟩ := hd11; exact HXA.out.trans hxw)
   obtain ⟨ob, ok, oa2, on2, oc2⟩ := ov
   have HOV := hI (show V = ob by rw [HV.out, <- prv_val hoo.1]; exact hio.parts.1.symm)
   have HIO := hI (hio.mono (mask_sub _ _))
   clear hoo hio hd11 hc11 c0 c1 c2 c3 c4 c5 c6 c7 c8 cf HDP HW10 HD10 HC910 HCB10 HX10 HWR HDR
   unfold PrV.val
   go_upto_region 12 with fail
   obtain ⟨b16, hb16⟩ : ∃ b16 : Nat, b16 = w11.heap.size := ⟨_, rfl⟩
   obtain ⟨w12, hw12⟩ : ∃ w12, w12 = w11.alloc (.cells #[.bool ob, .int .i64 ok, .slice oa2 on2 oc2] 40) := ⟨_, rfl⟩
   have hx12 : Ext w11 w12 := by rw [hw12]; exact (Ext.refl _).alloc _
   have HBO := hI (show w12.heap[b16]? = some (.cells #[.bool ob, .int .i64 ok, .slice oa2 on2 oc2] 40 (0, 0)) by rw [hw12, hb16]; exact alloc_new w11 _)
   have HL16 := hI (show w11.heap.size <= b16 by omega)
   rw [<- hw12, <- hb16]
   clear hw12 hb16
   obtain ⟨W13, hW13⟩ : ∃ W13, W13 = w12.setCell ⟨b16, 0, none⟩ (.bool !ob) := ⟨_, rfl⟩
   have HCO := hI (show Chg [b16] w12 W13 by rw [hW13]; exact put_chg _ _ _ _)
   have HB13 := hI (show W13.heap[b16]? = some (.cells #[.bool !ob, .int .i64 ok, .slice oa2 on2 oc2] 40 (0, 0)) by rw [hW13]; have := put_blk (i := 0) HBO.out (.bool !ob); simpa using this)
   have HX13 := hI (show Ext w11 W13 from HCO.out.ext hx12 (by have := HL16.out; simp; omega))
   obtain ⟨p0, p1, p2, pf'⟩ := blk3 HBO.out
   go_upto_region 13 with fail
   rw [<- hW13]
   clear hW13 hx12 p0 p1 p2 pf'
   have HC913 := hI (HX13.out.blk HC911.out)
   obtain ⟨c0, c1, c2, c3, c4, c5, c6, c7, c8, cf⟩ := blk9 HC913.out
   obtain ⟨p0, p1, p2, pf'⟩ := blk3 HB13.out
   obtain ⟨o0, ok0, ops⟩ := o
   obtain ⟨xs, exo, hrows, hprs⟩ := prs_parts HIO.out
   simp only [PrV.mk.injEq] at exo
   obtain ⟨e1, e2, -⟩ := exo
   have HNO := hI (show IsPr W13 (.mk (!ob) ok ops) ⟨!ob, ok, oa2, on2, oc2⟩ from IsPr.mk xs (hrows.ext HX13.out) hprs.1.symm (fun i h1 h2 => (hprs.2 i h1 h2).ext HX13.out))
   have HVO := hI ((HW11.out.mono HX13.out.sub).verify (HO.out.ext (HX11.out.trans HX13.out)) HNO.out)
   have hfo : prv s l f x (.mk (!ob) ok ops) = false := by rw [<- HOV.out, HV.out]; exact prv_other
   rw [hfo] at HVO
   unfold PrV.val ExV.val exV at HVO
   clear e1 e2 hrows hprs hfo HNO HIO
   go_wp2_with fail
   refine HVO.out.mono ?_
   rintro e w14 ⟨rfl, hx14⟩
   have HX14 := hI ((HX11.out.trans HX13.out).trans hx14)
   clear hx14 c0 c1 c2 c3 c4 c5 c6 c7 c8 cf p0 p1 p2 pf'
   go_wp2_with fail
   refine (awake11_calls w14 (HO.out.ext HX14.out)).mono ?_
   rintro e w15 ⟨rfl, hx15⟩
   have HX15 := hI (HX14.out.trans hx15)
   clear hx15
   go_wp2_with fail
   go_ret
   exact givesE_bool rfl HX15.out
open Go.ChangeShapes Go.WideShapes Go.ChangeAt Go.RowKit
theorem proof_arg {H : Type} {enc : TypeId × Value -> H} {W : World} {v : Value} {d : DataW H} {p : List MemPlace} {ts : List TypeId} {ds : List (DataW H)} {j : Nat} (h : DataW.Trod enc Tryz.prog W 0 (fun _ => true) true 40 v d p) {base : Nat} (hval : Value.okWide Tryz.prog W .any base 40 v)
  (hs : (DataW.weightsEach Tryz.prog ts ds).all (· <= reachBytes) = true) (ht : ts[j]? = some 40) (hd : ds[j]? = some d) : ∃ (q : Pr) (x : PrV), v = x.val /\ IsPr W q x /\ q.fit := by
 obtain ⟨fuel, hf⟩ := h
 have hw : (d.weights Tryz.prog 40).all (· <= reachBytes) = true := by
  rw [List.all_eq_true]
  intro n hn
  exact List.all_eq_true.1 hs n (DataW.weights_mem_each ht hd n hn)
 obtain ⟨x, h1, q, h2, h3⟩ := pr_arg fuel _ _ hf hw
 refine ⟨q, x, ?_, h2, h3⟩
 obtain ⟨fs, uE, _⟩ := uPr
 obtain ⟨cs, rfl, _⟩ := okWide_struct uE hval
 simp only [Value.cells] at h1
 have e : cs = x.cells.toArray := by rw [<- h1]
 rw [e]; rfl
end Go.Proofs.YtpkljcgihobaiaaGreatDoor
