/-
  Texts of the claim, joined: DWrd.
-/
import Derived.Test.YtefjomofjejklaaGreatCc24
namespace Go.Proofs.YtefjomofjejklaaGreat
set_option maxRecDepth 100000
set_option maxHeartbeats 32000000
open Go.RowKit
theorem elemEdm : ElemT 28 93 (.agg #[.int .i64 0, .int .i64 0, .slice none 0 0, .slice none 0 0]) 4 64 := ⟨by kernel_rfl, by kernel_rfl, rfl, by decide⟩
theorem gives_append_all {t e : TypeId} {z : Value} {size bytes : Nat} (E : ElemT t e z size bytes) {ρ : Operand -> Value} {W : World} {T : Value -> World -> Prop} {dst : Option Tmp} {ty : TypeId} {pos : String} {after : Array Edge} {guard : Option (Nat × Bool)}
  (s x : Operand) (base g0 n cap0 : Nat) (xs : List Value) (hs : ρ s = .slice (some ⟨g0, 0, none⟩) n cap0) (ax : OA) (m c : Nat) (news : List Value) (hx : ρ x = .slice ax m c) (hl : news.length = m * size) (h1 : ∀ u ∈ news, u.oneCell' = true) (hn : n + m <= 100000000) (hb : bytes <= 1000)
  (hown : W.ownsRow base e size (.slice (some ⟨g0, 0, none⟩) n cap0) n xs) (hnews : 0 < m -> ∃ b, ax = some ⟨b, 0, none⟩ /\ ∀ j (h : j < news.length), W.cell? ⟨b, j, none⟩ = some news[j]) (hbase : base <= W.heap.size)
  (h : ∀ g cap w', w'.ownsRow base e size (.slice (some ⟨g, 0, none⟩) (n + m) cap) (n + m) (xs ++ news) -> W.grownBy w' (some g0) -> T (.slice (some ⟨g, 0, none⟩) (n + m) cap) w') :
  GivesOp Tryz.prog { dst := dst, op := .call { callee := .builtin .append, args := #[s, x], argTypes := #[t, t] }, type := ty, pos := pos, after := after, guard := guard } ρ W T := by
 by_cases hm : m = 0
 ·subst hm
  have hnil : news = [] := List.eq_nil_of_length_eq_zero (by simpa using hl)
  subst hnil
  obtain ⟨i, hi, hz, hsz, hby⟩ := info_parts E.info
  have hnc : n <= cap0 := by
   rcases hown.2 with ⟨e, _⟩ | ⟨g, cap, cur, e, _, _, hnc, _⟩
   ·cases e
   cases e; exact hnc
  have hrun := run_append_zero (P := Tryz.prog) W t ty e i E.ht hi (some ⟨g0, 0, none⟩) n cap0 hnc ax c
  unfold GivesOp
  have he : execOp ρ { dst := dst, op := .call { callee := .builtin .append, args := #[s, x], argTypes := #[t, t] }, type := ty, pos := pos, after := after, guard := guard } = (do pure (.value (<- Builtin.append_ #[t, t] ty #[.slice (some ⟨g0, 0, none⟩) n cap0, .slice ax 0 c]))) := by
   rw [<- hs, <- hx, BigFrame.execOp_builtin, BigFrame.builtin_append]; simp
  rw [he]
  simp only [Sem.run_bind, hrun]
  exact h g0 cap0 W (by simpa using hown) ⟨rfl, rfl, rfl, Nat.le_refl _, fun _ _ _ => rfl⟩
 obtain ⟨b, rfl, hc⟩ := hnews (by omega)
 exact gives_append E s x base _ n xs hs b m c news hx hl h1 (by omega) hn hb hown hc hbase fun g cap w' h2 h3 _ _ => h g cap w' h2 h3
theorem conv_one {W : World} {y : Nat} {c : Int} {t : TypeId} (h : W.heap[y]? = some (.cells #[.int .u8 c] t (0, 0))) : Sem.run Tryz.prog (convert 91 9 (.slice (some ⟨y, 0, none⟩) 1 1)) W = .ok (.string ⟨#[UInt8.ofNat c.toNat]⟩) W := by
 rw [run_convert_bytes_string _ _ _ 5 _ _ _ uBs uBy uSt]
 have := run_bytesToString (P := Tryz.prog) W ⟨y, 0, none⟩ 1 1 [c] (by
  refine run_loadCells_list (P := Tryz.prog) _ _ [.int .u8 c] (fun j v hj => ?_)
  have : (⟨y, 0, none⟩ : Addr).add j = ⟨y, j, none⟩ := by unfold Addr.add; split <;> simp_all
  rw [this, blk_cell h]
  simpa using hj)
 rw [this]
 rfl
def ClsOk (l : List Cla) : Prop := 1 <= l.length /\ l.length <= 50 /\ ∀ c ∈ l, CGood c /\ c.name.size <= 100
def PdW (W : World) (v : Value) : Prop := ∃ l a n c, v = .slice a n c /\ IsClas W l a n c /\ ClsOk l
theorem pdW_mono : ∀ W W' v, Sub W W' -> PdW W v -> PdW W' v := fun _ _ _ hs ⟨l, a, n, c, h1, h2, h3⟩ => ⟨l, a, n, c, h1, h2.mono hs, h3⟩
def zeroEdm : Obj := .cells #[.int .i64 0, .int .i64 0, .slice none 0 0, .slice none 0 0] 93 (0, 0)
theorem deck_zeroEdm {w0 : World} {bd : Nat} : ∀ W, DeckAt w0 W bd -> W.heap[bd]? ≠ some zeroEdm := by
 rintro W ⟨la, ln, lc, k, hb, _⟩
 rw [hb]; unfold zeroEdm; simp
def EdmOk (x : Edm) : Prop := x.remove.length <= 50 /\ (∀ y ∈ x.remove, y.size <= 100) /\ ClsOk x.clauses
def WrdOk (x : Wrd) : Prop := ClsOk x.clauses /\ x.ends.length <= 2 /\ ∀ y ∈ x.ends, EdmOk y
def DWrQ (w0 : World) (bd : Nat) (M : ZN) (w : World) (e : Ending) (w' : World) : Prop := ∃ (x : Wrd) (v : Value), e = .returned v /\ WrdOk x /\ IsWrd (mask w' M) x v /\ DeckAt w0 w' bd /\ Chg [bd] w w'
theorem clsOk_of {attrs : List Attr} {p : BA} {l : List Cla} {n : Nat} (h : GLOk attrs p l) (h1 : 1 <= l.length) (h2 : l.length <= n + 1) (hn : n <= 49) (hp : p.size <= 98) : ClsOk l := ⟨h1, by omega, fun c hc => ⟨(h.1 c hc).1, by have := (h.1 c hc).2; omega⟩⟩
theorem clsOk_fit {l : List Cla} (h : ClsOk l) : fitClas l := ⟨by have := h.2.1; omega, fun c hc => by
 obtain ⟨⟨g1, g2, g3, g4, g5, g6⟩, hz⟩ := h.2.2 c hc
 have hl := wbN_len c.unl
 exact ⟨by omega, g1, g2, slim_of_size _ (by omega), by omega, wbFits_of_ok _ g5 (by omega)⟩⟩
theorem wrdOk_fit {x : Wrd} (h : WrdOk x) : x.fit := ⟨clsOk_fit h.1, by have := h.2.1; omega, fun y hy => ⟨by have := (h.2.2 y hy).1; omega, fun z hz => by have := (h.2.2 y hy).2.1 z hz; omega, clsOk_fit (h.2.2 y hy).2.2⟩⟩
def WBox (ca : OA) (cn cc : Nat) (ea : OA) (en ec : Nat) : Obj := .cells #[.slice ca cn cc, .slice ea en ec] 30 (0, 0)
def EdSt (W : World) (evs : List EdmV) (ea : OA) (en ec : Nat) : Prop := en = evs.length /\ en <= ec /\ ((en = 0 /\ ea = none /\ ec = 0) \/ ∃ g, ea = some ⟨g, 0, none⟩) /\ (∀ g, ea = some ⟨g, 0, none⟩ -> ∀ j (hj : j < (evs.flatMap EdmV.cells).length), W.cell? ⟨g, j, none⟩ = some (evs.flatMap EdmV.cells)[j]) /\ ∀ u ∈ evs, IsEdm W u /\ EdmOk u.x
theorem EdSt.mono {W W' : World} {evs : List EdmV} {ea : OA} {en ec : Nat} (h : EdSt W evs ea en ec) (hs : Sub W W') : EdSt W' evs ea en ec := ⟨h.1, h.2.1, h.2.2.1, fun g e j hj => hs _ _ (h.2.2.2.1 g e j hj), fun u hu => ⟨(h.2.2.2.2 u hu).1.mono hs, (h.2.2.2.2 u hu).2⟩⟩
theorem edm_one (evs : List EdmV) : ∀ u ∈ evs.flatMap EdmV.cells, u.oneCell' = true := by
 intro u hu
 obtain ⟨v, _, h⟩ := List.mem_flatMap.1 hu
 simp only [EdmV.cells, List.mem_cons, List.mem_nil_iff, or_false] at h
 rcases h with rfl | rfl | rfl | rfl <;> rfl
theorem edm_flat (evs : List EdmV) : (evs.flatMap EdmV.cells).length = evs.length * 4 := by
 induction evs with
 | nil => rfl
 | cons v r ih => simp only [List.flatMap_cons, List.length_append, ih, EdmV.len, List.length_cons]; omega
theorem EdSt.edms {W : World} {evs : List EdmV} {ea : OA} {en ec : Nat} (h : EdSt W evs ea en ec) : IsEdms W (evs.map (·.x)) ea en ec := by
 obtain ⟨h1, h2, h3, h4, h5⟩ := h
 refine ⟨evs, ⟨h1, h2, ?_, fun i hi => ?_⟩, rfl, fun u hu => (h5 u hu).1⟩
 ·rcases h3 with ⟨_, _, h⟩ | ⟨g, rfl⟩
  ·exact Or.inl ⟨h, h⟩
  exact Or.inr ⟨g, 0, rfl⟩
 rcases h3 with ⟨h, _, _⟩ | ⟨g, rfl⟩
 ·omega
 refine ⟨g, 0, rfl, fun j hj => ?_⟩
 have hf := flatMap_at EdmV.cells 4 EdmV.len evs i hi j hj
 obtain ⟨hlt, he⟩ := List.getElem?_eq_some_iff.1 hf
 rw [<- he, Nat.zero_add]
 exact h4 g rfl _ hlt
theorem edSt_snoc {w : World} {N : ZN} {base g en cp : Nat} {evs : List EdmV} {YV : EdmV} (h : w.ownsRow base 93 4 (.slice (some ⟨g, 0, none⟩) (en + 1) cp) (en + 1) ((evs ++ [YV]).flatMap EdmV.cells)) (hn : en = evs.length) (hg : g ∉ N) (ho : ∀ u ∈ evs, IsEdm (mask w N) u /\ EdmOk u.x) (hy : IsEdm (mask w N) YV /\ EdmOk YV.x) : EdSt (mask w N) (evs ++ [YV]) (some ⟨g, 0, none⟩) (en + 1) cp := by
 have hl : (evs ++ [YV]).length = en + 1 := by simp [hn]
 rw [<- hl] at h
 obtain ⟨a', c', e, hr⟩ := IsRows.of_owns EdmV.len h
 obtain ⟨rfl, rfl⟩ : some (⟨g, 0, none⟩ : Addr) = a' /\ cp = c' := by simpa using e
 refine ⟨hl.symm, by rw [<- hl]; exact hr.2.1, Or.inr ⟨g, rfl⟩, fun g' e' j hj => ?_, fun u hu => ?_⟩
 ·obtain rfl : g = g' := by simpa using e'
  rw [mask_cell, if_neg hg, h.cellAt j (by rw [<- edm_flat]; exact hj)]
  exact List.getElem?_eq_getElem hj
 rcases List.mem_append.1 hu with h' | h'
 ·exact ho u h'
 simp only [List.mem_singleton] at h'; rw [h']; exact hy
def put2 (w : World) (B : Nat) (v0 v1 : Value) : World := (w.setCell ⟨B, 0, none⟩ v0).setCell ⟨B, 1, none⟩ v1
theorem put2_blk {w : World} {B : Nat} {u0 u1 v0 v1 : Value} {t : TypeId} (h : w.heap[B]? = some (.cells #[u0, u1] t (0, 0))) : (put2 w B v0 v1).heap[B]? = some (.cells #[v0, v1] t (0, 0)) := by
 unfold put2
 rw [heap_setCell_same _ _ _ _ _ _ (heap_setCell_same _ _ _ _ _ _ h)]
 rfl
theorem put2_chg (w : World) (B : Nat) {v0 v1 : Value} : Chg [B] w (put2 w B v0 v1) := by
 unfold put2
 repeat (with_reducible (refine Chg.setCell ?_ ?_ _))
 exact Chg.refl _ _
 all_goals exact Or.inl (by simp)
structure WrP (w0 w : World) (bd bw : Nat) (N : ZN) (SO RO : Obj) (K : Int) (cls : List Cla) (evs : List EdmV) (ca : OA) (cn cc : Nat) (ea : OA) (en ec : Nat) (wr : World) : Prop where
 k0 : 0 <= K
 k2 : (evs.length : Int) + K <= 2
 cok : ClsOk cls
 cla : IsClas (mask wr N) cls ca cn cc
 eds : EdSt (mask wr N) evs ea en ec
 box : wr.heap[bw]? = some (WBox ca cn cc ea en ec)
 sbox : wr.heap[w.heap.size]? = some SO
 rbox : wr.heap[w.heap.size + 1]? = some RO
 deck : DeckAt w0 wr bd
 chg : Chg [bd] w wr
def put4 (w : World) (B : Nat) (v0 v1 v2 v3 : Value) : World := (((w.setCell ⟨B, 0, none⟩ v0).setCell ⟨B, 1, none⟩ v1).setCell ⟨B, 2, none⟩ v2).setCell ⟨B, 3, none⟩ v3
theorem put4_blk {w : World} {B : Nat} {u0 u1 u2 u3 v0 v1 v2 v3 : Value} {t : TypeId} (h : w.heap[B]? = some (.cells #[u0, u1, u2, u3] t (0, 0))) : (put4 w B v0 v1 v2 v3).heap[B]? = some (.cells #[v0, v1, v2, v3] t (0, 0)) := by
 unfold put4
 rw [heap_setCell_same _ _ _ _ _ _ (heap_setCell_same _ _ _ _ _ _ (heap_setCell_same _ _ _ _ _ _ (heap_setCell_same _ _ _ _ _ _ h)))]
 rfl
theorem put4_chg (w : World) (B : Nat) {v0 v1 v2 v3 : Value} : Chg [B] w (put4 w B v0 v1 v2 v3) := by
 unfold put4
 repeat (with_reducible (refine Chg.setCell ?_ ?_ _))
 exact Chg.refl _ _
 all_goals exact Or.inl (by simp)
theorem strs_own {w : World} {M : ZN} {base n c : Nat} {a : OA} {l : ZB} (hn : n = l.length) (h : w.ownsRow base 9 1 (.slice a n c) n (l.flatMap strCells)) (hM : ∀ k, (Value.slice a n c).ownBlock = some k -> k ∉ M) : IsStrs (mask w M) l a n c := by
 rw [hn] at h
 obtain ⟨a', c', e, hr⟩ := IsRows.of_owns (f := strCells) (fun _ => rfl) h
 obtain ⟨rfl, rfl⟩ : a = a' /\ c = c' := by simpa [hn] using e
 refine ⟨hn, by rw [hn]; exact hr.2.1, hr.2.2.1, fun i hi => ?_⟩
 obtain ⟨b, off, rfl, hc⟩ := hr.2.2.2 i hi
 refine ⟨b, off, rfl, ?_⟩
 have := hc 0 (by simp [strCells])
 rw [mask_cell, if_neg (hM _ rfl)]
 simpa [strCells] using this
structure RmP (w0 w8 : World) (bd bx : Nat) (pf pt : Int) (da : OA) (dn dc : Nat) (I : Nat) (rl : ZB) (ra : OA) (rn rc : Nat) (wr : World) : Prop where
 len : rl.length <= I
 sz : ∀ y ∈ rl, y.size <= 100
 rne : rn = rl.length
 own : wr.ownsRow w8.heap.size 9 1 (.slice ra rn rc) rn (rl.flatMap strCells)
 box : wr.heap[bx]? = some (.cells #[.int .i64 pf, .int .i64 pt, .slice ra rn rc, .slice da dn dc] 93 (0, 0))
 deck : DeckAt w0 wr bd
 chg : Chg [bd, bx] w8 wr
theorem RmP.step {w0 w8 : World} {bd bx : Nat} {pf pt : Int} {da : OA} {dn dc I : Nat} {rl : ZB} {ra : OA} {rn rc : Nat} {wr W : World} (h : RmP w0 w8 bd bx pf pt da dn dc I rl ra rn rc wr) (hb : bd < bx /\ bx < w8.heap.size) (hc : Chg [bd] wr W) (hd : DeckAt w0 W bd) : RmP w0 w8 bd bx pf pt da dn dc I rl ra rn rc W :=
 {h with own := owns_chg h.own hc (fun q hq hm => by have := (h.own.lt q hq).1; simp only [List.mem_singleton] at hm; omega), box := hc.blk h.box (by simp; omega), deck := hd, chg := h.chg.then (hc.weak (fun y hy => by simp at hy; simp [hy])) }
theorem RmP.more {w0 w8 : World} {bd bx : Nat} {pf pt : Int} {da : OA} {dn dc I : Nat} {rl : ZB} {ra : OA} {rn rc : Nat} {wr : World} (h : RmP w0 w8 bd bx pf pt da dn dc I rl ra rn rc wr) : RmP w0 w8 bd bx pf pt da dn dc (I + 1) rl ra rn rc wr := { h with len := by have := h.len; omega }
theorem mask_newb {W W' : World} {bd b : Nat} {N : ZN} (h : Chg [bd] W W') (hb : bd ∈ N) (hn : W.heap.size <= b) : Sub (mask W N) (mask W' (b :: N)) := mask_sub_mask fun k hk hm => ⟨fun h' => by
 rcases List.mem_cons.1 h' with e | e
 ·omega
 exact hm e, h.block k hk fun h' => hm (by simp only [List.mem_singleton] at h'; rw [h']; exact hb)⟩
def GnAe (a b k : Nat) (W W' : World) : Prop := (k ≠ a -> k ≠ b -> Ext W W') /\ (k = a -> ∃ x, Chg [x] W W' /\ W.heap[x]? = some (.cells #[] 93 (0, 0))) /\ (k = b -> True)
theorem gnae {a b k : Nat} {W W' : World} (h : Ext W W') (ha : k ≠ a) (_hb : k ≠ b) : GnAe a b k W W' := ⟨fun _ _ => h, fun e => absurd e ha, fun _ => trivial⟩
def GnWe (w0 w5 : World) (bd : Nat) (M : ZN) (pf pt : Int) (L : ZN) (vs : Nat -> Value) (W : World) : Prop := GnBd w0 w5 bd zeroEdm PdW M 10 12 L vs W /\ (11 ∈ L -> vs 11 = .agg #[.int .i64 pf, .int .i64 pt, .slice none 0 0, vs 10])
section
variable {w0 w5 W W' : World} {bd : Nat} {M : ZN} {pf pt : Int} {L : ZN} {vs : Nat -> Value}
theorem gnwe_step {i : Nat} {v : Value} (h1 : i ≠ 10) (h2 : i ≠ 12) (h3 : i ≠ 11) (h : GnWe w0 w5 bd M pf pt L vs W) (hd : DeckAt w0 W' bd) (hx : Chg [bd] W W') : GnWe w0 w5 bd M pf pt (L ++ [i]) (upd vs i v) W' := by
 refine ⟨gnbd_step pdW_mono deck_zeroEdm h1 h2 h.1 hd hx, fun hm => ?_⟩
 have u1 : upd vs i v 10 = vs 10 := by unfold upd; rw [if_neg (fun e => h1 e.symm)]
 have u2 : upd vs i v 11 = vs 11 := by unfold upd; rw [if_neg (fun e => h3 e.symm)]
 rw [u1, u2]
 exact h.2 (by simp at hm; rcases hm with hm | hm; exact hm; exact absurd hm.symm h3)
theorem gnwe_10 {v : Value} (hn : 11 ∉ L) (h : GnBd w0 w5 bd zeroEdm PdW M 10 12 (L ++ [10]) (upd vs 10 v) W') : GnWe w0 w5 bd M pf pt (L ++ [10]) (upd vs 10 v) W' := ⟨h, fun hm => by simp at hm; exact absurd hm hn⟩
theorem gnwe_11 {v : Value} (h : GnWe w0 w5 bd M pf pt L vs W) (hv : vs 10 = v) : GnWe w0 w5 bd M pf pt (L ++ [11]) (upd vs 11 (.agg #[.int .i64 pf, .int .i64 pt, .slice none 0 0, v])) W := by
 refine ⟨gnbd_step pdW_mono deck_zeroEdm (by decide) (by decide) h.1 h.1.1 (Chg.refl _ _), fun _ => ?_⟩
 rw [show upd vs 11 (.agg #[.int .i64 pf, .int .i64 pt, .slice none 0 0, v]) 11 = .agg #[.int .i64 pf, .int .i64 pt, .slice none 0 0, v] by simp [upd], show upd vs 11 (.agg #[.int .i64 pf, .int .i64 pt, .slice none 0 0, v]) 10 = vs 10 by simp [upd], hv]
theorem gnwe_12 (h : GnWe w0 w5 bd M pf pt L vs W) : GnWe w0 w5 bd M pf pt (L ++ [12]) (upd vs 12 (.pointer (some ⟨W.heap.size, 0, none⟩))) (W.alloc zeroEdm) := by
 refine ⟨gnbd_alloc pdW_mono (by decide) rfl h.1, fun hm => ?_⟩
 rw [show upd vs 12 (.pointer (some ⟨W.heap.size, 0, none⟩)) 11 = vs 11 by simp [upd], show upd vs 12 (.pointer (some ⟨W.heap.size, 0, none⟩)) 10 = vs 10 by simp [upd]]
 exact h.2 (by simpa using hm)
end
theorem WrP.next {w0 w : World} {bd bw : Nat} {M2 : ZN} {SO RO : Obj} {K : Int} {cls : List Cla} {evs : List EdmV} {ca : OA} {cn cc : Nat} {ea : OA} {en ec : Nat} {wr W : World} (h : WrP w0 w bd bw (bd :: bw :: M2) SO RO K cls evs ca cn cc ea en ec wr) (hc : Chg [bd] wr W) (hd : DeckAt w0 W bd) (hb : bd < w.heap.size) (hbw : w.heap.size + 2 <= bw) (hk : 0 < K) : WrP w0 w bd bw (bd :: bw :: M2) SO RO (K - 1) cls evs ca cn cc ea en ec W :=
 ⟨by omega, by have := h.k2; omega, h.cok, h.cla.mono (mask_step hc (by simp)), h.eds.mono (mask_step hc (by simp)), hc.blk h.box (by simp; omega), hc.blk h.sbox (by simp; omega), hc.blk h.rbox (by simp; omega), hd, h.chg.then hc⟩
def GnLw (w0 wr : World) (bd q : Nat) (N : ZN) (L : ZN) (_ : Nat -> Value) (W : World) : Prop := GnL w0 wr bd q N L W
theorem gnlw_start {w0 wr : World} {bd q : Nat} {N : ZN} {vs : Nat -> Value} (hd : DeckAt w0 wr bd) : GnLw w0 wr bd q N [] vs wr.drew := ⟨hd.ext ((Ext.refl wr).drew), ((Ext.refl wr).drew).chg _, fun _ => ((Ext.refl wr).drew).chg _⟩
theorem gnlw_step {w0 wr W W' : World} {bd q i : Nat} {N L : ZN} {vs vs' : Nat -> Value} (h : GnLw w0 wr bd q N L vs W) (hd : DeckAt w0 W' bd) (hc : Chg [bd] W W') : GnLw w0 wr bd q N (L ++ [i]) vs' W' :=
 ⟨hd, h.2.1.then (hc.weak (fun y hy => by simp at hy; simp [hy])), fun hq => (h.2.2 fun h' => hq (List.mem_append_left _ h')).then hc⟩
theorem gnlw_brk {w0 wr W W' : World} {bd q : Nat} {N L : ZN} {vs vs' : Nat -> Value} (h : GnLw w0 wr bd q N L vs W) (hd : DeckAt w0 W' bd) (hc : Chg (bd :: N) W W') : GnLw w0 wr bd q N (L ++ [q]) vs' W' :=
 ⟨hd, h.2.1.then hc, fun hq => absurd (by simp) hq⟩
def dw8R (bd : Nat) (pf pt' : Int) (sa : OA) (sn sc : Nat) (K : Int) : Nat -> Value -> World -> Prop
 | 0, u, _ => u = .agg #[.int .i64 pf, .int .i64 pt']
 | 1, u, _ => u = .pointer (some ⟨bd, 0, none⟩)
 | 2, u, _ => u = .agg #[.slice sa sn sc]
 | 3, u, _ => u = .int .i64 K
 | 4, u, _ => u = .int .i64 (48 + K)
 | 5, u, _ => u = .int .u8 (48 + K)
 | 6, u, W => ∃ (g : Nat), u = .slice (some ⟨g, 0, none⟩) 1 1 /\ (W.heap[g]? = some (.cells #[.int .u8 (48 + K)] 5 (0, 0)) /\ g ≠ bd)
 | 7, u, _ => ∃ (s : BA), u = .string s /\ s.size <= 1
 | 8, u, _ => ∃ (s : BA), u = .string s /\ s.size <= 2
 | 9, u, _ => ∃ (s : BA), u = .string s /\ s.size <= 3
 | 10, u, _ => ∃ (da5 : OA) (dn5 : Nat) (dc5 : Nat), u = .slice da5 dn5 dc5 /\ True
 | 11, u, _ => u = u /\ True
 | _, u, _ => u = u /\ True
def dw13R (w8 : World) (bd bw bx cb coff cn cc : Nat) (I : Nat) (nm : BA) (rl : ZB) (ra : OA) (rn rc : Nat) : Nat -> Value -> World -> Prop
 | 0, u, _ => u = .pointer (some ⟨bx, 2, none⟩)
 | 1, u, _ => u = .slice ra rn rc
 | 2, u, _ => u = .pointer (some ⟨bw, 0, none⟩)
 | 3, u, _ => u = .slice (some ⟨cb, coff, none⟩) cn cc
 | 4, u, _ => u = .int .i64 ((I : Nat) : Int)
 | 5, u, _ => u = .pointer (some ⟨cb, coff + I * 10, none⟩)
 | 6, u, _ => u = .pointer (some ⟨cb, coff + I * 10 + 1, none⟩)
 | 7, u, _ => u = .string nm
 | 8, u, W => ∃ (g : Nat), u = .slice (some ⟨g, 0, none⟩) 1 1 /\ (W.heap[g]? = some (.cells #[.string nm] 9 (0, 0)) /\ g ≠ bd)
 | 9, u, W => ∃ (g2 : Nat) (cp : Nat), u = .slice (some ⟨g2, 0, none⟩) (rn + 1) cp /\ (W.ownsRow w8.heap.size 9 1 (.slice (some ⟨g2, 0, none⟩) (rn + 1) cp) (rn + 1) (rl.flatMap strCells ++ [Value.string nm]))
 | _, u, _ => u = .pointer (some ⟨bx, 2, none⟩)
def dw17R (w12 : World) (bw _bx bY : Nat) (pf pt' : Int) (ra : OA) (rn rc : Nat) (ya : OA) (yn yc : Nat) (evs : List EdmV) (ea : OA) (en ec : Nat) : Nat -> Value -> World -> Prop
 | 0, u, W => ∃ (g : Nat), u = .slice (some ⟨g, 0, none⟩) 0 0 /\ (w12.heap.size <= g /\ W.heap[g]? = some (.cells #[] 93 (0, 0)))
 | 1, u, _ => u = .pointer (some ⟨bw, 1, none⟩)
 | 2, u, _ => u = .slice ea en ec
 | 3, u, W => ∃ (g : Nat) (cp : Nat), u = .slice (some ⟨g, 0, none⟩) en cp /\ (W.ownsRow w12.heap.size 93 4 (.slice (some ⟨g, 0, none⟩) en cp) en (evs.flatMap EdmV.cells))
 | 4, u, _ => u = .agg #[.int .i64 pf, .int .i64 pt', .slice ra rn rc, .slice ya yn yc]
 | 5, u, W => ∃ (y : Nat), u = .slice (some ⟨y, 0, none⟩) 1 1 /\ (W.heap[y]? = some (.cells #[.int .i64 pf, .int .i64 pt', .slice ra rn rc, .slice ya yn yc] 93 (0, 0)))
 | 6, u, W => ∃ (g : Nat) (cp : Nat), u = .slice (some ⟨g, 0, none⟩) (en + 1) cp /\ (W.ownsRow w12.heap.size 93 4 (.slice (some ⟨g, 0, none⟩) (en + 1) cp) (en + 1) (evs.flatMap EdmV.cells ++ [Value.int .i64 pf, .int .i64 pt', .slice ra rn rc, .slice ya yn yc]))
 | _, u, _ => u = .pointer (some ⟨bY, 1, none⟩)
theorem dwording_calls {attrs : List Attr} (hat : attrs ∈ schemas) {w0 w : World} {bd : Nat} (hd : DeckAt w0 w bd) (sa : OA) (sn sc : Nat) (M : ZN) (hs : IsSchema (mask w [bd]) attrs (.agg #[.slice sa sn sc])) (hM : ∀ y ∈ M, y < w.heap.size) (n : Nat) (hn : n <= 40) (sound : Bool) :
  Calls Tryz.prog 16 #[.pointer (some ⟨bd, 0, none⟩), .agg #[.slice sa sn sc], .int .i64 (n : Nat), .bool sound] w (DWrQ w0 bd M w) := by
 have hbw := hd.lt
 have HD := hI hd
 have HGC := hI (fun (M' : ZN) (n : Nat) (p : BA) W (hW : Chg [bd] w W) (hdW : DeckAt w0 W bd) (hM' : ∀ y ∈ M', y < W.heap.size) (hn : n <= 49) (hp : p.size <= 98) => gclauses_calls hat (schemas_ok attrs hat).1 (schemas_ok attrs hat).2.1 (schemas_ok attrs hat).2.2 hdW sa sn sc M' (hs.mono (mask_step hW (by simp))) hM' n (by omega) p (by omega))
 have HWE := hI (fun (x : Wrd) (v : Value) W (hW : Chg [bd] w W) (hw : IsWrd W x v) (hok : WrdOk x) => rWErr_calls attrs (.agg #[.slice sa sn sc]) x v W ((hs.mono (mask_step hW (by simp))).mono (mask_sub _ _)) (attrs_fits hat) (by have := (schemas_ok attrs hat).2.2; omega) hw (wrdOk_fit hok))
 have HW0 := hI (show w0.heap.size <= w.heap.size by obtain ⟨_, _, _, _, _, _, _, _, hxw, _⟩ := hd; exact hxw.size)
 obtain ⟨M2, hM2⟩ : ∃ M2, M2 = (w.heap.size + 1) :: M := ⟨_, rfl⟩
 have HM2 := hI (show ∀ y ∈ M2, y < w.heap.size + 2 from fun y hy => by rw [hM2] at hy; rcases List.mem_cons.1 hy with h | h; omega; have := hM y h; omega)
 have HMS := hI (show (w.heap.size + 1) ∈ M2 /\ ∀ y ∈ M, y ∈ M2 by rw [hM2]; exact ⟨by simp, fun y hy => by simp [hy]⟩)
 clear hs hM hd hM2 hat
 obtain ⟨wa, hwa⟩ : ∃ wa, wa = (w.alloc (.cells #[.slice sa sn sc] 25)).alloc (.cells #[.slice none 0 0, .slice none 0 0] 30) := ⟨_, rfl⟩
 have hxa : Ext w wa := by rw [hwa]; exact ((Ext.refl _).alloc _).alloc _
 have HS0 := hI (show wa.heap[w.heap.size]? = some (.cells #[.slice sa sn sc] 25 (0, 0)) by rw [hwa]; exact blk_alloc (alloc_new w _))
 have HR0 := hI (show wa.heap[w.heap.size + 1]? = some (WBox none 0 0 none 0 0) by
  rw [hwa]; have := alloc_new (w.alloc (.cells #[.slice sa sn sc] 25)) (.cells #[.slice none 0 0, .slice none 0 0] 30); rwa [World.size_alloc] at this)
 have HDA := hI (HD.out.ext hxa)
 have HCA := hI (hxa.chg [bd])
 have hsza2 : w.heap.size + 2 <= wa.heap.size := by rw [hwa]; simp
 clear hxa
 obtain ⟨s0, sf⟩ := blk1 HS0.out
 go_enter Tryz.func16, Tryz.ntmps16
 go_upto_region 1 with fail
 rw [<- hwa]
 clear hwa
 go_wp2_with fail
 refine (HGC.out (bd :: M2) n ⟨#[99, 45]⟩ wa HCA.out HDA.out (fun y hy => by rcases List.mem_cons.1 hy with h | h; omega; have := HM2.out y h; omega) (by omega) (by decide)).mono ?_
 rintro r w1 ⟨cls, ca, cn, cc, rfl, hcla, hgl, hl1, hl2, hd1, hc1⟩
 have HCLS := hI (clsOk_of hgl hl1 hl2 (by omega) (by decide))
 have HCLA := hI hcla
 have HD1 := hI hd1
 have HC1 := hI (HCA.out.then hc1)
 have HS1 := hI (hc1.blk HS0.out (by simp; omega))
 have HR1 := hI (hc1.blk HR0.out (by simp; omega))
 have hz1 := hc1.size
 clear hcla hgl hl1 hl2 hd1 hc1 s0 sf HDA HCA HS0 HR0
 go_upto_region 2 with fail
 obtain ⟨wb, hwb⟩ : ∃ wb, wb = w1.alloc (.cells #[.slice ca cn cc, .slice none 0 0] 30) := ⟨_, rfl⟩
 have hxb : Ext w1 wb := by rw [hwb]; exact (Ext.refl _).alloc _
 have HBB := hI (show wb.heap[w1.heap.size]? = some (WBox ca cn cc none 0 0) by rw [hwb]; exact alloc_new w1 _)
 obtain ⟨bw, hbwe⟩ : ∃ bw, bw = w1.heap.size := ⟨_, rfl⟩
 have hbwl : w.heap.size + 2 <= bw := by omega
 have HCLB := hI (show IsClas (mask wb (bd :: bw :: M2)) cls ca cn cc from HCLA.out.mono (mask_sub_mask fun k hk hm => ⟨fun h => by
  simp only [List.mem_cons] at h hm
  rcases h with h | h | h
  ·exact hm (Or.inl h)
  ·omega
  exact hm (Or.inr h), hxb.block k hk⟩))
 rw [<- hbwe] at HBB
 have HDB := hI (HD1.out.ext hxb)
 have HCB := hI (HC1.out.then (hxb.chg [bd]))
 have HSB := hI (hxb.blk HS1.out)
 have HRB := hI (hxb.blk HR1.out)
 rw [<- hwb, <- hbwe]
 clear hwb hxb hbwe HC1 HD1 HS1 HR1 HCLA
 go_wp2_with fail
 refine (next_calls HDB.out 3 (by omega) (by omega)).mono ?_
 rintro r w2 ⟨K0, rfl, hk0, hk1, hd2, hc2⟩
 have HP0 := hI (show WrP w0 w bd bw (bd :: bw :: M2) (.cells #[.slice sa sn sc] 25 (0, 0)) (WBox none 0 0 none 0 0) K0 cls [] ca cn cc none 0 0 w2 from
  ⟨hk0, by simp; omega, HCLS.out, HCLB.out.mono (mask_step hc2 (by simp)), ⟨rfl, Nat.le_refl _, Or.inl ⟨rfl, rfl, rfl⟩, fun g e => by simp at e, fun u hu => by simp at hu⟩, hc2.blk HBB.out (by simp; omega), hc2.blk HSB.out (by simp; omega), hc2.blk HRB.out (by simp; omega), hd2, HCB.out.then hc2⟩)
 clear hd2 hc2 HDB HCB HSB HRB HBB HCLB
 go_wp2_with fail
 go_loopw [10] (fun i wr => ∃ (K : Int) (cls : List Cla) (evs : List EdmV) (ca : OA) (cn cc : Nat) (ea : OA) (en ec : Nat), i = .int .i64 K /\ WrP w0 w bd bw (bd :: bw :: M2) (.cells #[.slice sa sn sc] 25 (0, 0)) (WBox none 0 0 none 0 0) K cls evs ca cn cc ea en ec wr) (fun i _ => (intOf i).toNat)
 case atStart => exact ⟨K0, cls, [], ca, cn, cc, none, 0, 0, rfl, HP0.out⟩
 case round =>
  obtain ⟨K, cls, evs, ca, cn, cc, ea, en, ec, rfl, hp⟩ := hrel
  obtain ⟨wo, rfl⟩ : ∃ wo : World, wo = wr := ⟨_, rfl⟩
  have HP := hI hp
  have hk0 := hp.k0
  have hk2 := hp.k2
  have HBW := hI hp.box
  have HSX := hI hp.sbox
  have HDX := hI hp.deck
  have HCX := hI hp.chg
  have hcz := hp.chg.size
  have hlbw := blk_lt hp.box
  clear hp HP0
  by_cases hkp : 0 < K
  case neg =>
   have t1 : decide (0 < K) = false := decide_eq_false hkp
   have hrx := HP.out.rbox
   have HRX := hI hrx
   unfold WBox at hrx
   have hbx := HBW.out
   unfold WBox at hbx
   obtain ⟨b0, b1, bf⟩ := blk2 hbx
   obtain ⟨y0, y1, yf⟩ := blk2 hrx
   have hltr := blk_lt hrx
   clear hrx hbx
   go_wp2_with fail
   obtain ⟨wq, hwq⟩ : ∃ wq, wq = put2 wo (w.heap.size + 1) (.slice ca cn cc) (.slice ea en ec) := ⟨_, rfl⟩
   have hbq : wq.heap[w.heap.size + 1]? = some (.cells #[.slice ca cn cc, .slice ea en ec] 30 (0, 0)) := by rw [hwq]; exact put2_blk HRX.out
   have HCS := hI (show Chg [w.heap.size + 1] wo wq by rw [hwq]; exact put2_chg _ _)
   unfold put2 at hwq
   rw [<- hwq]
   clear hwq b0 b1 bf y0 y1 yf
   obtain ⟨z0, z1, zf⟩ := blk2 hbq
   refine bodyPost_ret (v := .agg #[.slice ca cn cc, .slice ea en ec]) (by simp [results, Tryz.results16, go_sem, z0, z1]) rfl ?_
   have hsb : Sub (mask wo (bd :: bw :: M2)) (mask wq M) := (mask_step HCS.out (by simp [HMS.out.1])).trans (mask_less _ (fun y hy => by simp [HMS.out.2 y hy]))
   exact ⟨⟨cls, evs.map (·.x)⟩, _, rfl, ⟨HP.out.cok, by have := HP.out.k2; simp; omega, fun y hy => by
    obtain ⟨u, hu, rfl⟩ := List.mem_map.1 hy
    exact (HP.out.eds.2.2.2.2 u hu).2⟩, ⟨ca, cn, cc, ea, en, ec, rfl, HP.out.cla.mono hsb, HP.out.eds.edms.mono hsb⟩, HDX.out.chg HCS.out (by simp; omega) (by simp; have := HW0.out; omega), HCX.out.trans HCS.out (fun y hy => Or.inr (by simp at hy; omega))⟩
  have t1 : decide (0 < K) = true := decide_eq_true hkp
  go_wp2_with fail
  refine (period_calls HDX.out).mono ?_
  rintro r w3 ⟨pf, pt, rfl, hpf, hpft, hpt, hd3, hc3⟩
  have HD3 := hI hd3
  have HC3 := hI hc3
  have hz3 := hc3.size
  clear hd3 hc3
  go_upto_region 6 with fail
  obtain ⟨w4, hw4⟩ : ∃ w4, w4 = w3.alloc (.cells #[.int .i64 pf, .int .i64 pt] 89) := ⟨_, rfl⟩
  rw [<- hw4]
  have hx4 : Ext w3 w4 := by rw [hw4]; exact (Ext.refl _).alloc _
  have HB4 := hI (show w4.heap[w3.heap.size]? = some (.cells #[.int .i64 pf, .int .i64 pt] 89 (0, 0)) by rw [hw4]; exact alloc_new w3 _)
  obtain ⟨bp, hbp⟩ : ∃ bp, bp = w3.heap.size := ⟨_, rfl⟩
  rw [<- hbp] at HB4 ⊢
  have hbpl : wo.heap.size <= bp := by omega
  have HD4 := hI (HD3.out.ext hx4)
  have HC4 := hI (HC3.out.then (hx4.chg [bd]))
  clear hw4 hx4 hbp HD3 HC3
  obtain ⟨p0, p1, ppf⟩ := blk2 HB4.out
  have hlp := blk_lt HB4.out
  go_cut [] (fun wx => ∃ t' : Int, wx.heap[bp]? = some (.cells #[.int .i64 pf, .int .i64 t'] 89 (0, 0)) /\ t' <= 876599 /\ DeckAt w0 wx bd /\ Chg [bd] wo wx)
  case first =>
   have HSET := hI (fun (t' : Int) (h : t' <= 876599) => (show ∃ t'' : Int, (w4.setCell ⟨bp, 1, none⟩ (.int .i64 t')).heap[bp]? = some (.cells #[.int .i64 pf, .int .i64 t''] 89 (0, 0)) /\ t'' <= 876599 /\ DeckAt w0 (w4.setCell ⟨bp, 1, none⟩ (.int .i64 t')) bd /\ Chg [bd] wo (w4.setCell ⟨bp, 1, none⟩ (.int .i64 t')) from by
    have hcs : Chg [bp] w4 (w4.setCell ⟨bp, 1, none⟩ (.int .i64 t')) := (Chg.refl [bp] _).setCell (Or.inl (by simp)) _
    exact ⟨t', heap_setCell_same w4 bp 1 _ _ (.int .i64 t') HB4.out, h, HD4.out.chg hcs (by simp; omega) (by simp; have := HW0.out; omega), HC4.out.trans hcs (fun y hy => Or.inr (by simp at hy; omega))⟩))
   go_wp2_with fail
   all_goals
    go_meet
    case rel => exact HSET.out _ (by omega)
  case rest =>
  obtain ⟨w5, rfl⟩ : ∃ w5 : World, w5 = wc := ⟨_, rfl⟩
  obtain ⟨pt', hb5, hpt5, hd5, hc5⟩ := hcut
  have HB5 := hI hb5
  have HD5 := hI hd5
  have HC5 := hI hc5
  have hz5 := hc5.size
  have hlp5 := blk_lt hb5
  clear hb5 hd5 hc5 p0 p1 ppf hlp HB4 HD4 HC4
  obtain ⟨p0, p1, ppf⟩ := blk2 HB5.out
  by_cases hge : pt' <= pf
  ·have t2 : decide (pt' <= pf) = true := decide_eq_true hge
   have HPN := hI (HP.out.next HC5.out HD5.out hbw hbwl)
   clear hge
   go_wp2_with fail
   go_roundw
   case rel => exact ⟨K - 1, cls, evs, ca, cn, cc, ea, en, ec, by go_num, HPN.out hkp⟩
   case measure => simp [intOf]; omega
  have t2 : decide (pt' <= pf) = false := decide_eq_false hge
  clear hge
  have HSX5 := hI (HC5.out.blk HSX.out (by simp; omega))
  go_upto_region 8 with fail
  have HMB := hI (show ∀ y ∈ bd :: bw :: M2, y < w5.heap.size from fun y hy => by
   simp only [List.mem_cons] at hy
   rcases hy with h | h | h
   ·omega
   ·omega
   have := HM2.out y h; omega)
  refine wp_region_growLG (n := 108) (m := 13) [] (GnWe w0 w5 bd (bw :: M2) pf pt') (GnE bd) (GrP (dw8R bd pf pt' sa sn sc K)) (by kernel_rfl) (by kernel_rfl) (Nat.le_of_ble_eq_true rfl) ?gd ⟨gnbd_start HD5.out, fun h => by simp at h⟩ ?_ ?_ ?_
  case gd =>
   intro i o j b hi ho hg
   rcases ltc13 hi with rfl | rfl | rfl | rfl | rfl | rfl | rfl | rfl | rfl | rfl | rfl | rfl | rfl <;> (cases ho; first | (cases hg; done) | (cases hg; intro v W h; exact h))
  ·intro i k v W W' hi hk hne hout h hE
   have hE : Chg [bd] W W' := hE
   have hi' := ltc13 hi
   clear hi hk hne hout
   rcases hi' with rfl | rfl | rfl | rfl | rfl | rfl | rfl | rfl | rfl | rfl | rfl | rfl | rfl
   ·exact h
   ·exact h
   ·exact h
   ·exact h
   ·exact h
   ·exact h
   ·obtain ⟨g, e0, h⟩ := h
    exact ⟨g, e0, ⟨hE.blk h.1 (by simpa using h.2), h.2⟩⟩
   ·obtain ⟨s, e0, h⟩ := h
    exact ⟨s, e0, h⟩
   ·obtain ⟨s, e0, h⟩ := h
    exact ⟨s, e0, h⟩
   ·obtain ⟨s, e0, h⟩ := h
    exact ⟨s, e0, h⟩
   ·obtain ⟨da5, dn5, dc5, e0, h⟩ := h
    exact ⟨da5, dn5, dc5, e0, trivial⟩
   ·obtain ⟨e0, h⟩ := h
    exact ⟨e0, trivial⟩
   obtain ⟨e0, h⟩ := h
   exact ⟨e0, trivial⟩
  ·intro q op hq ho L vs W hqL hcL hW hd ρ hρ
   have hq' := ltc13 hq
   clear hq
   have o11 : ρ (.tmp 11) = .pointer (some ⟨bp, 0, none⟩) := hρ.out 11 rfl
   have o0 : ρ (.tmp 0) = .pointer (some ⟨bd, 0, none⟩) := hρ.out 0 rfl
   have o5 : ρ (.tmp 5) = .pointer (some ⟨w.heap.size, 0, none⟩) := hρ.out 5 rfl
   have o10 : ρ (.tmp 10) = .int .i64 K := hρ.out 10 rfl
   have i3 := hρ.i 3 43
   have i4 := hρ.i 4 44
   have i5 := hρ.i 5 45
   have i6 := hρ.i 6 46
   have i7 := hρ.i 7 47
   have i8 := hρ.i 8 48
   have i1 := hρ.i 1 41
   have i2 := hρ.i 2 42
   have i9 := hρ.i 9 49
   have i0 := hρ.i 0 40
   have i10 := hρ.i 10 50
   have hc := hρ.const
   have hfn := hρ.func
   clear hρ
   rcases hq' with rfl | rfl | rfl | rfl | rfl | rfl | rfl | rfl | rfl | rfl | rfl | rfl | rfl
   ·have HG := hI hW
    have HW := hI (show DeckAt w0 W bd /\ Chg [bd] w5 W from ⟨hW.1.1, hW.1.2.1⟩)
    have HQL := hI hqL
    clear hW hqL hcL
    cases ho
    clear hd
    have g0 := HW.out.2.cell p0 (by simp; omega)
    have g1 := HW.out.2.cell p1 (by simp; omega)
    unfold GivesOp
    go_simp
    exact ⟨Chg.refl _ _, gnwe_step (by decide) (by decide) (by decide) HG.out HW.out.1 (Chg.refl _ _), rfl⟩
   ·have HG := hI hW
    have HW := hI (show DeckAt w0 W bd /\ Chg [bd] w5 W from ⟨hW.1.1, hW.1.2.1⟩)
    have HQL := hI hqL
    clear hW hqL hcL
    cases ho
    clear hd
    unfold GivesOp
    go_simp
    exact ⟨Chg.refl _ _, gnwe_step (by decide) (by decide) (by decide) HG.out HW.out.1 (Chg.refl _ _), rfl⟩
   ·have HG := hI hW
    have HW := hI (show DeckAt w0 W bd /\ Chg [bd] w5 W from ⟨hW.1.1, hW.1.2.1⟩)
    have HQL := hI hqL
    clear hW hqL hcL
    cases ho
    clear hd
    obtain ⟨g7, gf7⟩ := blk1 (HW.out.2.blk HSX5.out (by simp; omega))
    unfold GivesOp
    go_simp
    exact ⟨Chg.refl _ _, gnwe_step (by decide) (by decide) (by decide) HG.out HW.out.1 (Chg.refl _ _), rfl⟩
   ·have HG := hI hW
    have HW := hI (show DeckAt w0 W bd /\ Chg [bd] w5 W from ⟨hW.1.1, hW.1.2.1⟩)
    have HQL := hI hqL
    clear hW hqL hcL
    cases ho
    clear hd
    unfold GivesOp
    go_simp
    exact ⟨Chg.refl _ _, gnwe_step (by decide) (by decide) (by decide) HG.out HW.out.1 (Chg.refl _ _), rfl⟩
   ·have HG := hI hW
    have HW := hI (show DeckAt w0 W bd /\ Chg [bd] w5 W from ⟨hW.1.1, hW.1.2.1⟩)
    have HQL := hI hqL
    clear hW hqL hcL
    cases ho
    have h3 : vs 3 = _ := hd ⟨3, .data⟩ (by simp) rfl
    rw [h3] at i3
    clear hd
    have hw4 : IntKind.i64.wrap (48 + K) = 48 + K := IntWalk.i64_in _ (by omega)
    unfold GivesOp
    go_simp
    try rw [hw4]
    exact ⟨Chg.refl _ _, gnwe_step (by decide) (by decide) (by decide) HG.out HW.out.1 (Chg.refl _ _), rfl⟩
   ·have HG := hI hW
    have HW := hI (show DeckAt w0 W bd /\ Chg [bd] w5 W from ⟨hW.1.1, hW.1.2.1⟩)
    have HQL := hI hqL
    clear hW hqL hcL
    cases ho
    have h4 : vs 4 = _ := hd ⟨4, .data⟩ (by simp) rfl
    rw [h4] at i4
    clear hd
    have hw5 : IntKind.u8.wrap (48 + K) = 48 + K := by rcases (by omega : K = 1 \/ K = 2) with rfl | rfl <;> rfl
    unfold GivesOp
    go_simp
    try rw [hw5]
    exact ⟨Chg.refl _ _, gnwe_step (by decide) (by decide) (by decide) HG.out HW.out.1 (Chg.refl _ _), rfl⟩
   ·have HG := hI hW
    have HW := hI (show DeckAt w0 W bd /\ Chg [bd] w5 W from ⟨hW.1.1, hW.1.2.1⟩)
    have HQL := hI hqL
    clear hW hqL hcL
    cases ho
    have h5 : vs 5 = _ := hd ⟨5, .data⟩ (by simp) rfl
    rw [h5] at i5
    clear hd
    unfold GivesOp
    go_simp
    exact ⟨((Ext.refl W).alloc _).chg _, gnwe_step (by decide) (by decide) (by decide) HG.out (HW.out.1.ext ((Ext.refl W).alloc _)) (((Ext.refl W).alloc _).chg _), W.heap.size, rfl, alloc_new W _, by have := HW.out.1.lt; omega⟩
   ·have HG := hI hW
    have HW := hI (show DeckAt w0 W bd /\ Chg [bd] w5 W from ⟨hW.1.1, hW.1.2.1⟩)
    have HQL := hI hqL
    clear hW hqL hcL
    cases ho
    obtain ⟨g, h6, hs6⟩ : ∃ (g : Nat), vs 6 = .slice (some ⟨g, 0, none⟩) 1 1 /\ (W.heap[g]? = some (.cells #[.int .u8 (48 + K)] 5 (0, 0)) /\ g ≠ bd) := hd ⟨6, .data⟩ (by simp) rfl
    have HS6 := hI hs6
    clear hs6
    rw [h6] at i6
    clear hd
    have kc := conv_one HS6.out.1
    unfold GivesOp
    go_simp
    exact ⟨Chg.refl _ _, gnwe_step (by decide) (by decide) (by decide) HG.out HW.out.1 (Chg.refl _ _), _, rfl, Nat.le_refl 1⟩
   ·have HG := hI hW
    have HW := hI (show DeckAt w0 W bd /\ Chg [bd] w5 W from ⟨hW.1.1, hW.1.2.1⟩)
    have HQL := hI hqL
    clear hW hqL hcL
    cases ho
    obtain ⟨s, h7, hs7⟩ : ∃ (s : BA), vs 7 = .string s /\ s.size <= 1 := hd ⟨7, .data⟩ (by simp) rfl
    have HS7 := hI hs7
    clear hs7
    rw [h7] at i7
    clear hd
    have hn8 : ¬ (9223372036854775807 < 1 + s.size) := by have := HS7.out; omega
    unfold GivesOp
    go_simp
    exact ⟨Chg.refl _ _, gnwe_step (by decide) (by decide) (by decide) HG.out HW.out.1 (Chg.refl _ _), _, rfl, by rw [ByteArray.size_append]; have := HS7.out; have h1 : (⟨#[101]⟩ : BA).size = 1 := rfl; omega⟩
   ·have HG := hI hW
    have HW := hI (show DeckAt w0 W bd /\ Chg [bd] w5 W from ⟨hW.1.1, hW.1.2.1⟩)
    have HQL := hI hqL
    clear hW hqL hcL
    cases ho
    obtain ⟨s, h8, hs8⟩ : ∃ (s : BA), vs 8 = .string s /\ s.size <= 2 := hd ⟨8, .data⟩ (by simp) rfl
    have HS8 := hI hs8
    clear hs8
    rw [h8] at i8
    clear hd
    have hn9 : ¬ (9223372036854775807 < s.size + 1) := by have := HS8.out; omega
    unfold GivesOp
    go_simp
    exact ⟨Chg.refl _ _, gnwe_step (by decide) (by decide) (by decide) HG.out HW.out.1 (Chg.refl _ _), _, rfl, by rw [ByteArray.size_append]; have := HS8.out; have h1 : (⟨#[45]⟩ : BA).size = 1 := rfl; omega⟩
   ·have HN11 := hI (show 11 ∉ L from fun h => absurd (hcL 11 h) (by decide +kernel))
    have HG := hI hW
    have HW := hI (show DeckAt w0 W bd /\ Chg [bd] w5 W from ⟨hW.1.1, hW.1.2.1⟩)
    have HQL := hI hqL
    clear hW hqL hcL
    cases ho
    have h1 : vs 1 = _ := hd ⟨1, .data⟩ (by simp) rfl
    rw [h1] at i1
    have h2 : vs 2 = _ := hd ⟨2, .data⟩ (by simp) rfl
    rw [h2] at i2
    obtain ⟨s, h9, hs9⟩ : ∃ (s : BA), vs 9 = .string s /\ s.size <= 3 := hd ⟨9, .data⟩ (by simp) rfl
    have HS9 := hI hs9
    clear hs9
    rw [h9] at i9
    clear hd
    unfold GivesOp
    go_simp
    obtain ⟨Y, hY1, hY2⟩ := gnbd_call (ka := 12) deck_zeroEdm (by decide) HMB.out HG.out.1
    refine (HGC.out (Y ++ bd :: bw :: M2) 2 s W ((HCX.out.then HC5.out).then HW.out.2) HW.out.1 hY1 (by omega) (by have := HS9.out; omega)).mono ?_
    rintro e5 w5 ⟨l5, a5, n5, c5, rfl, q1, q2, q3, q4, hd5, hc5⟩
    exact ⟨_, rfl, hc5, gnwe_10 HN11.out (hY2 _ _ hd5 hc5 ⟨l5, a5, n5, c5, rfl, q1, clsOk_of q2 q3 q4 (by omega) (by have := HS9.out; omega)⟩), _, _, _, rfl, trivial⟩
   ·have HG := hI hW
    have HW := hI (show DeckAt w0 W bd /\ Chg [bd] w5 W from ⟨hW.1.1, hW.1.2.1⟩)
    have HQL := hI hqL
    clear hW hqL hcL
    cases ho
    have h0 : vs 0 = _ := hd ⟨0, .data⟩ (by simp) rfl
    rw [h0] at i0
    obtain ⟨da5, dn5, dc5, h10, hs10⟩ : ∃ (da5 : OA) (dn5 : Nat) (dc5 : Nat), vs 10 = .slice da5 dn5 dc5 /\ True := hd ⟨10, .data⟩ (by simp) rfl
    have HS10 := hI hs10
    clear hs10
    rw [h10] at i10
    clear hd
    unfold GivesOp
    go_simp
    exact ⟨Chg.refl _ _, gnwe_11 HG.out h10, rfl, trivial⟩
   have HG := hI hW
   have HW := hI (show DeckAt w0 W bd /\ Chg [bd] w5 W from ⟨hW.1.1, hW.1.2.1⟩)
   have HQL := hI hqL
   clear hW hqL hcL
   cases ho
   clear hd
   unfold GivesOp
   go_simp
   exact ⟨((Ext.refl W).alloc _).chg _, gnwe_12 HG.out, rfl, trivial⟩
  intro L vs W hLm hW hR
  rw [if_neg (by decide +kernel)]
  obtain ⟨bx, h12, q1, q2, q3⟩ := gnbd_end pdW_mono hW.1 (hLm 10 (by omega)) (hLm 12 (by omega))
  have h11 := hW.2 (hLm 11 (by omega))
  obtain ⟨xcl, da, dn, dc, h10, qcl, qok⟩ := q3
  rw [h10] at h11
  have HX0 := hI (And.intro q1 q2)
  have HXC := hI (And.intro qcl qok)
  obtain ⟨x0, x1, x2, x3, xf⟩ := blk4c (show W.heap[bx]? = some (.cells #[.int .i64 0, .int .i64 0, .slice none 0 0, .slice none 0 0] 93 (0, 0)) from q1)
  have hlx := blk_lt q1
  clear q1 q2 qcl qok h10
  refine wpOp_lastG rfl ?_
  change wpList _ _ _ [⟨none, .store _ (.tmp 12) (.tmp 51), _, _, _, none⟩] _ _
  simp only [acts, dstAt, List.range, List.range.loop, List.foldl_cons, List.foldl_nil, h11, h12]
  go_simp
  have hW2 : DeckAt w0 W bd /\ Chg [bd] w5 W := ⟨hW.1.1, hW.1.2.1⟩
  clear hR hW hLm h11 h12
  have HW2 := hI hW2
  clear hW2
  go_upto_region 9 with fail
  clear x0 x1 x2 x3 xf hlx p0 p1 ppf hlp5
  obtain ⟨w8, hw8⟩ : ∃ w8, w8 = put4 W bx (.int .i64 pf) (.int .i64 pt') (.slice none 0 0) (.slice da dn dc) := ⟨_, rfl⟩
  have hx8 : w8.heap[bx]? = some (.cells #[.int .i64 pf, .int .i64 pt', .slice none 0 0, .slice da dn dc] 93 (0, 0)) := by rw [hw8]; exact put4_blk (u0 := .int .i64 0) (u1 := .int .i64 0) (u2 := .slice none 0 0) (u3 := .slice none 0 0) HX0.out.1
  have hcx8 : Chg [bx] W w8 := by rw [hw8]; exact put4_chg _ _
  have hbxl : wo.heap.size <= bx := by have := HX0.out.2; omega
  unfold put4 at hw8
  rw [<- hw8]
  have HX8 := hI hx8
  have HXC8 := hI (show IsClas (mask w8 (bx :: bd :: bw :: M2)) xcl da dn dc from HXC.out.1.mono (mask_step hcx8 (by simp)))
  have HXOK := hI HXC.out.2
  have HD8 := hI (HW2.out.1.chg hcx8 (by simp; omega) (by simp; have := HW0.out; omega))
  have HC8 := hI ((HC5.out.then HW2.out.2).trans hcx8 (fun y hy => Or.inr (by simp at hy; omega)))
  have hz8 := ((HC5.out.then HW2.out.2).trans hcx8 (fun y hy => Or.inr (by simp at hy; omega))).size
  have hlx8 := blk_lt hx8
  have HBW8 := hI (HC8.out.blk HBW.out (by simp; omega))
  have HCL8 := hI (show IsClas (mask w8 (bx :: bd :: bw :: M2)) cls ca cn cc from HP.out.cla.mono (mask_newb HC8.out (by simp) hbxl))
  have HCN := hI HP.out.cla.len
  have hcn50 : cn <= 50 := by have := HP.out.cla.len; have := HP.out.cok.2.1; omega
  have HCOK := hI HP.out.cok
  clear hw8 hx8 hcx8 HX0 HXC HW2 HB5 HD5
  go_wp2_with fail
  go_loopw [13] (fun i wr => ∃ (I : Nat) (rl : ZB) (ra : OA) (rn rc : Nat), i = .int .i64 (I : Nat) /\ I <= cn /\ RmP w0 w8 bd bx pf pt' da dn dc I rl ra rn rc wr) (fun i _ => cn - (intOf i).toNat)
  case atStart => exact ⟨0, [], none, 0, 0, rfl, Nat.zero_le _, ⟨Nat.zero_le _, fun y hy => by simp at hy, rfl, ⟨rfl, Or.inl ⟨rfl, rfl⟩⟩, HX8.out, HD8.out, Chg.refl _ _⟩⟩
  case round =>
   obtain ⟨I, rl, ra, rn, rc, rfl, hIe, hq⟩ := hrel
   obtain ⟨wi, rfl⟩ : ∃ wi : World, wi = wr := ⟨_, rfl⟩
   have HQ := hI hq
   have hrn := hq.len
   have hrne := hq.rne
   have hbwi := hq.chg.blk HBW8.out (by simp; omega)
   have hzi := hq.chg.size
   have HDI := hI hq.deck
   unfold WBox at hbwi
   obtain ⟨b0, b1, bf⟩ := blk2 hbwi
   have HRNE := hI hrne
   have hrn50 : rn <= 50 := by omega
   clear hq hrne hrn hbwi
   by_cases hIn : I < cn
   case neg =>
    have t3 : decide ((I : Int) < (cn : Int)) = false := decide_eq_false (by omega)
    go_wp2_with fail
    refine (next_calls HDI.out 6 (by omega) (by omega)).mono ?_
    rintro r w10 ⟨q10, rfl, hq100, hq101, hd10, hc10⟩
    have HQA := hI (HQ.out.step (by omega) hc10 hd10)
    have HC10 := hI (show Chg [bd] wo w10 from (HC8.out.trans HQ.out.chg (fun y hy => by simp at hy; rcases hy with rfl | rfl; exact Or.inl (by simp); exact Or.inr hbxl)).then hc10)
    have hz10 := hc10.size
    clear hd10 hc10 b0 b1 bf HDI
    have HXA := hI (show IsClas (mask w10 (bx :: bd :: bw :: M2)) xcl da dn dc from HXC8.out.mono (mask_grow HQA.out.chg (fun y hy => by simp at hy; rcases hy with rfl | rfl <;> exact Or.inl (by simp))))
    have HCLA := hI (show IsClas (mask w10 (bx :: bd :: bw :: M2)) cls ca cn cc from HCL8.out.mono (mask_grow HQA.out.chg (fun y hy => by simp at hy; rcases hy with rfl | rfl <;> exact Or.inl (by simp))))
    have HSTR := hI (show IsStrs (mask w10 (bx :: bd :: bw :: M2)) rl ra rn rc from strs_own HRNE.out HQA.out.own (fun k hk hm => by
     have h1 := (HQA.out.own.lt k hk).1
     simp only [List.mem_cons] at hm
     rcases hm with h | h | h | h
     ·omega
     ·omega
     ·omega
     have := HM2.out k h; omega))
    have HBWA := hI (HC10.out.blk HBW.out (by simp; omega))
    have HSXA := hI (HC10.out.blk HSX.out (by simp; omega))
    have HBXA := hI HQA.out.box
    have HDA := hI HQA.out.deck
    have HRSZ := hI HQA.out.sz
    have hlxa := blk_lt HQA.out.box
    have hcn1 : 1 <= cn := by have := HCN.out; have := HCOK.out.1; omega
    have hzw0 := HW0.out
    clear HQ HQA HCL8 HXC8 HX8 HD8 HC8 HBW8
    go_upto_if 75 with fail
    go_cut [] (fun wx => ∃ (cl : List Cla) (ya : OA) (yn yc : Nat), wx.heap[bx]? = some (.cells #[.int .i64 pf, .int .i64 pt', .slice ra rn rc, .slice ya yn yc] 93 (0, 0)) /\ IsClas (mask wx (bx :: bd :: bw :: M2)) cl ya yn yc /\ ClsOk cl /\ DeckAt w0 wx bd /\ Chg [bx] w10 wx)
    case first =>
     by_cases hq5 : q10 = 5
     case neg =>
      have t4 : (q10 == 5) = false := by simp [hq5]
      clear hq5
      go_wp2_with fail
      go_meet
      case rel => exact ⟨xcl, da, dn, dc, HBXA.out, HXA.out, HXOK.out, HDA.out, Chg.refl _ _⟩
     subst hq5
     obtain ⟨x0, x1, x2, x3, xf⟩ := blk4c HBXA.out
     have hbwa := HBWA.out
     unfold WBox at hbwa
     obtain ⟨b0, b1, bf⟩ := blk2 hbwa
     have hil : 0 < cls.length := by have := HCN.out; omega
     obtain ⟨cb, coff, cv, hcb, hcla, hrow⟩ := HCLA.out.at hil
     subst hcb
     have hrow2 : RowAt w10 cb coff cv.cells := by have := hrow.mono (mask_sub _ _); simpa using this
     have hlb10 := blk_lt HBWA.out
     obtain ⟨c0, c1, c2, c3, c4, c5, c6, c7, c8, c9⟩ := hrow2.ten
     have HCV := hI hcla
     have h0cn : 0 < cn := by omega
     have h0cn2 : (0 : Int) < (cn : Int) := by omega
     have hlcb := block_lt c0
     simp only at hlcb
     obtain ⟨we, hwe⟩ : ∃ we, we = w10.alloc (.cells #[] 99) := ⟨_, rfl⟩
     have hxe : Ext w10 we := by rw [hwe]; exact (Ext.refl _).alloc _
     have HGE := hI (show we.heap[w10.heap.size]? = some (.cells #[] 99 (0, 0)) by rw [hwe]; exact alloc_new w10 _)
     have HXE := hI hxe
     have HOE := hI (show we.ownsRow w10.heap.size 99 10 (.slice (some ⟨w10.heap.size, 0, none⟩) 0 0) 0 [] from ⟨rfl, Or.inr ⟨w10.heap.size, 0, #[], rfl, Nat.le_refl _, HGE.out, Nat.le_refl _, by unfold maxLen; omega, rfl, rfl⟩⟩)
     have hze := hxe.size
     have hbxe := hxe.blk HBXA.out
     have hw10 : w10.heap.size < we.heap.size := blk_lt HGE.out
     clear x0 x1 x2 x3 xf
     have HOE2 := hI (show (w10.alloc (.cells #[] 99)).ownsRow w10.heap.size 99 10 (.slice (some ⟨w10.heap.size, 0, none⟩) 0 0) 0 [] by rw [<- hwe]; exact HOE.out)
     have HWEQ := hI hwe
     clear hwe
     go_wp2_with (at_builtin; refine wpList_append_at elemCla rfl _ _ rfl w10.heap.size _ 0 [] rfl HOE2.out _ 1 1 rfl (by simp) rfl (by simp [Value.oneCell']) (by unfold maxLen; omega) (by omega) (by simp) ?_)
     intro v8 w13 hown8 hc8 hw8
     rw [<- HWEQ.out] at hc8
     have HC13 := hI (show Chg [bx] w10 w13 from (hxe.chg [bx]).trans hc8 (fun y hy => Or.inr (HOE.out.lt y (mem_rowOf.1 hy)).1))
     have hown9 : w13.ownsRow w10.heap.size 99 10 v8 1 ([cv].flatMap ClV.cells) := by simpa [ClV.cells] using hown8
     have HO13 := hI hown9
     have HD13 := hI ((HDA.out.ext HXE.out).chg hc8 (fun hm => by have := (HOE.out.lt _ (mem_rowOf.1 hm)).1; omega) (fun y hy => by have := (HOE.out.lt _ (mem_rowOf.1 hy)).1; omega))
     have HB13 := hI (hc8.blk hbxe (fun hm => by have := (HOE.out.lt _ (mem_rowOf.1 hm)).1; omega))
     obtain ⟨a8, c8', hv8⟩ := owns_formG hown8
     subst hv8
     clear hown8 hown9 hc8 hw8 hxe hbxe c0 c1 c2 c3 c4 c5 c6 c7 c8 c9 b0 b1 bf hrow2
     obtain ⟨x0, x1, x2, x3, xf⟩ := blk4c HB13.out
     have hlx3 := blk_lt HB13.out
     go_wp2_with fail
     go_meet
     case rel =>
      have hcs : Chg [bx] w13 (w13.setCell ⟨bx, 3, none⟩ (.slice a8 1 c8')) := (Chg.refl [bx] _).setCell (Or.inl (by simp)) _
      refine ⟨[cls[0]], a8, 1, c8', heap_setCell_same w13 bx 3 _ _ _ HB13.out, ?_, ⟨by simp, by simp, fun c hc => by simp only [List.mem_singleton] at hc; rw [hc]; exact HCOK.out.2.2 _ (List.getElem_mem hil)⟩, HD13.out.chg hcs (by simp; omega) (by simp; omega), HC13.out.then hcs⟩
      obtain ⟨a9, c9, e9, hcl9⟩ := clas_owns (l := [cls[0]]) (vs := [cv]) (M := bx :: bd :: bw :: M2) (by simpa using HO13.out) (fun k hk hm => by
       have h1 := (HO13.out.lt k hk).1
       simp only [List.mem_cons] at hm
       rcases hm with h | h | h | h
       ·omega
       ·omega
       ·omega
       have := HM2.out k h; omega) ⟨rfl, fun i h1 h2 => by
       obtain rfl : i = 0 := by simp at h1; exact h1
       exact HCV.out.mono (mask_step HC13.out (by simp))⟩
      obtain ⟨rfl, rfl⟩ : a8 = a9 /\ c8' = c9 := by simpa using e9
      exact hcl9.mono (mask_step hcs (by simp))
    case rest =>
    obtain ⟨w11, rfl⟩ : ∃ w11 : World, w11 = wc := ⟨_, rfl⟩
    obtain ⟨ycl, ya, yn, yc, hbx11, hyc, hyok, hd11, hc11⟩ := hcut
    have HBX11 := hI hbx11
    have HYC := hI hyc
    have HYOK := hI hyok
    have HD11 := hI hd11
    have HC11 := hI (HC10.out.trans hc11 (fun y hy => Or.inr (by simp at hy; omega)))
    have HSTR11 := hI (HSTR.out.mono (mask_step hc11 (by simp)))
    have HBW11 := hI (hc11.blk HBWA.out (by simp; omega))
    have HSX11 := hI (hc11.blk HSXA.out (by simp; omega))
    have HEDS := hI (show EdSt (mask w11 (bx :: bd :: bw :: M2)) evs ea en ec from HP.out.eds.mono (mask_newb HC11.out (by simp) hbxl))
    have HCL11 := hI (HCLA.out.mono (mask_step hc11 (by simp)))
    have hz11 := hc11.size
    have hlx11 := blk_lt hbx11
    clear hbx11 hyc hyok hd11 hc11 HXA HCLA HSTR HBXA HDA
    have hbw11 := HBW11.out
    unfold WBox at hbw11
    obtain ⟨b0, b1, bf⟩ := blk2 hbw11
    have hlbw11 := blk_lt hbw11
    clear hbw11
    go_upto_region 17 with fail
    obtain ⟨w12, hw12⟩ : ∃ w12, w12 = w11.alloc (.cells #[.slice ca cn cc, .slice ea en ec] 30) := ⟨_, rfl⟩
    have hx12 : Ext w11 w12 := by rw [hw12]; exact (Ext.refl _).alloc _
    have HBY := hI (show w12.heap[w11.heap.size]? = some (WBox ca cn cc ea en ec) by rw [hw12]; exact alloc_new w11 _)
    obtain ⟨bY, hbY⟩ : ∃ bY, bY = w11.heap.size := ⟨_, rfl⟩
    rw [<- hw12, <- hbY]
    rw [<- hbY] at HBY
    have hbYl : w11.heap.size <= bY := by omega
    have hs12 : bY < w12.heap.size := blk_lt HBY.out
    have HD12 := hI (HD11.out.ext hx12)
    have HX12 := hI hx12
    have hbw12 := HX12.out.blk HBW11.out
    unfold WBox at hbw12
    obtain ⟨b0', b1', bf'⟩ := blk2 hbw12
    have hbx12 := HX12.out.blk HBX11.out
    obtain ⟨x0, x1, x2, x3, xf⟩ := blk4c hbx12
    have HENL := hI HEDS.out.1
    have hen2 : en <= 2 := by have := HEDS.out.1; omega
    have HEC := hI (show 0 < en -> ∃ b, ea = some ⟨b, 0, none⟩ /\ ∀ j (h : j < (evs.flatMap EdmV.cells).length), w12.cell? ⟨b, j, none⟩ = some (evs.flatMap EdmV.cells)[j] from fun hp => by
     obtain ⟨q1, q2, q3, q4, q5⟩ := HEDS.out
     rcases q3 with ⟨h, _⟩ | ⟨g, rfl⟩
     ·omega
     exact ⟨g, rfl, fun j hj => HX12.out.cell (mask_sub _ _ _ _ (q4 g rfl j hj))⟩)
    clear hw12 hx12 hbY b0 b1 bf hbw12 hbx12
    obtain ⟨YV, hYV⟩ : ∃ YV : EdmV, YV = ⟨⟨pf, pt', rl, ycl⟩, ra, rn, rc, ya, yn, yc⟩ := ⟨_, rfl⟩
    have HYV := hI hYV
    clear hYV
    go_upto_region 17 with fail
    refine wp_region_grow (m := 8) [6, 7] (GrG w12) (GnAe 3 6) (GrP (dw17R w12 bw bx bY pf pt' ra rn rc ya yn yc evs ea en ec)) (by kernel_rfl) (by kernel_rfl) ((Ext.refl w12).drew) ?_ ?_ ?_
    ·intro i k v W W' hi hk hne hout h hE
     have hi' := ltc8 hi
     clear hi hk
     by_cases hk : k = 3
     ·subst hk
      obtain ⟨x, hE, hx0⟩ := hE.2.1 rfl
      rcases hi' with rfl | rfl | rfl | rfl | rfl | rfl | rfl | rfl
      ·exact absurd hout (by decide +kernel)
      ·exact h
      ·exact h
      ·exact absurd rfl hne
      ·exact h
      ·obtain ⟨y, e0, h⟩ := h
       exact ⟨y, e0, hE.blk h (by simp only [List.mem_singleton]; intro e; subst e; rw [h] at hx0; cases hx0)⟩
      ·exact absurd hout (by decide +kernel)
      exact h
     by_cases hk : k = 6
     ·subst hk
      rcases hi' with rfl | rfl | rfl | rfl | rfl | rfl | rfl | rfl
      ·exact absurd hout (by decide +kernel)
      ·exact h
      ·exact h
      ·exact absurd hout (by decide +kernel)
      ·exact h
      ·exact absurd hout (by decide +kernel)
      ·exact absurd rfl hne
      exact h
     have hE : Ext W W' := (hE.1 ‹_› ‹_›)
     rcases hi' with rfl | rfl | rfl | rfl | rfl | rfl | rfl | rfl
     ·obtain ⟨g, e0, h⟩ := h
      exact ⟨g, e0, ⟨h.1, hE.blk h.2⟩⟩
     ·exact h
     ·exact h
     ·obtain ⟨g, cp, e0, h⟩ := h
      exact ⟨g, cp, e0, owns_extG h hE⟩
     ·exact h
     ·obtain ⟨y, e0, h⟩ := h
      exact ⟨y, e0, hE.blk h⟩
     ·obtain ⟨g, cp, e0, h⟩ := h
      exact ⟨g, cp, e0, owns_extG h hE⟩
     exact h
    ·intro q op hq ho vs W hW hd ρ hρ
     have hq' := ltc8 hq
     clear hq
     have o9 : ρ (.tmp 9) = .pointer (some ⟨bw, 0, none⟩) := hρ.out 9 rfl
     have i1 := hρ.i 1 86
     have i0 := hρ.i 0 85
     have i2 := hρ.i 2 87
     have o12 : ρ (.tmp 12) = .pointer (some ⟨bx, 0, none⟩) := hρ.out 12 rfl
     have i4 := hρ.i 4 89
     have i3 := hρ.i 3 88
     have i5 := hρ.i 5 90
     have o14 : ρ (.tmp 14) = .pointer (some ⟨bY, 0, none⟩) := hρ.out 14 rfl
     have hc := hρ.const
     have hfn := hρ.func
     clear hρ
     have HW := hI (show Ext w12 W from hW)
     rcases hq' with rfl | rfl | rfl | rfl | rfl | rfl | rfl | rfl
     ·cases ho
      clear hd
      unfold GivesOp
      go_simp
      exact ⟨gnae ((Ext.refl W).alloc _) (by decide) (by decide), HW.out.alloc _, W.heap.size, rfl, HW.out.size, alloc_new W _⟩
     ·cases ho
      clear hd
      unfold GivesOp
      go_simp
      exact ⟨gnae (Ext.refl _) (by decide) (by decide), rfl⟩
     ·cases ho
      have h1 : vs 1 = _ := hd ⟨1, .data⟩ (by simp) rfl
      rw [h1] at i1
      clear hd
      have g2 := HW.out.cell b1'
      unfold GivesOp
      go_simp
      exact ⟨gnae (Ext.refl _) (by decide) (by decide), rfl⟩
     ·cases ho
      obtain ⟨g, h0, hs0⟩ : ∃ (g : Nat), vs 0 = .slice (some ⟨g, 0, none⟩) 0 0 /\ (w12.heap.size <= g /\ W.heap[g]? = some (.cells #[] 93 (0, 0))) := hd ⟨0, .data⟩ (by simp) rfl
      have HS0 := hI hs0
      clear hs0
      rw [h0] at i0
      have h2 : vs 2 = _ := hd ⟨2, .data⟩ (by simp) rfl
      rw [h2] at i2
      clear hd
      refine gives_append_all elemEdm _ _ w12.heap.size g 0 0 [] i0 ea en ec (evs.flatMap EdmV.cells) i2 (by rw [edm_flat, HENL.out]) (edm_one evs) (by omega) (by omega) ⟨rfl, Or.inr ⟨g, 0, #[], rfl, HS0.out.1, HS0.out.2, Nat.le_refl _, by unfold maxLen; omega, rfl, rfl⟩⟩ (fun hp => by obtain ⟨b, e, hc⟩ := HEC.out hp; exact ⟨b, e, fun j hj => HW.out.cell (hc j hj)⟩) HW.out.size ?_
      intro g6 cap6 w6 ho6 hg6
      simp only [Nat.zero_add, List.nil_append] at ho6 ⊢
      exact ⟨⟨fun h => absurd rfl h, fun _ => ⟨g, (grown_chg (v := .slice (some ⟨g, 0, none⟩) 0 0) hg6).weak (fun y hy => by simpa [rowOf, Value.ownBlock] using hy), HS0.out.2⟩, fun h => absurd h (by decide)⟩, Ext.grown HW.out hg6 (fun k hk => by have hk2 : g = k := (by simpa using hk); have := HS0.out.1; omega), g6, cap6, rfl, ho6⟩
     ·cases ho
      clear hd
      have g0 := HW.out.cell x0
      have g1 := HW.out.cell x1
      have g2 := HW.out.cell x2
      have g3 := HW.out.cell x3
      unfold GivesOp
      go_simp
      exact ⟨gnae (Ext.refl _) (by decide) (by decide), rfl⟩
     ·cases ho
      have h4 : vs 4 = _ := hd ⟨4, .data⟩ (by simp) rfl
      rw [h4] at i4
      clear hd
      unfold GivesOp
      go_simp
      exact ⟨gnae ((Ext.refl W).alloc _) (by decide) (by decide), HW.out.alloc _, W.heap.size, rfl, alloc_new W _⟩
     ·cases ho
      obtain ⟨g, cp, h3, hs3⟩ : ∃ (g : Nat) (cp : Nat), vs 3 = .slice (some ⟨g, 0, none⟩) en cp /\ (W.ownsRow w12.heap.size 93 4 (.slice (some ⟨g, 0, none⟩) en cp) en (evs.flatMap EdmV.cells)) := hd ⟨3, .data⟩ (by simp) rfl
      have HS3 := hI hs3
      clear hs3
      rw [h3] at i3
      obtain ⟨y, h5, hs5⟩ : ∃ (y : Nat), vs 5 = .slice (some ⟨y, 0, none⟩) 1 1 /\ (W.heap[y]? = some (.cells #[.int .i64 pf, .int .i64 pt', .slice ra rn rc, .slice ya yn yc] 93 (0, 0))) := hd ⟨5, .data⟩ (by simp) rfl
      have HS5 := hI hs5
      clear hs5
      rw [h5] at i5
      clear hd
      refine gives_append elemEdm _ _ w12.heap.size _ en (evs.flatMap EdmV.cells) i3 y 1 1 [Value.int .i64 pf, .int .i64 pt', .slice ra rn rc, .slice ya yn yc] i5 rfl (by simp [Value.oneCell']) (by omega) (by omega) (by omega) HS3.out (fun j hj => by rw [blk_cell HS5.out]; simp) HW.out.size ?_
      intro g7 cap7 w7 ho7 hg7 hl7 hlt7
      exact ⟨⟨fun _ h => absurd rfl h, fun h => absurd h (by decide), fun _ => trivial⟩, Ext.grown HW.out hg7 (fun k hk => by have hk2 : g = k := (by simpa [Value.ownBlock] using hk); have := (HS3.out.lt g rfl).1; omega), g7, cap7, rfl, ho7⟩
     cases ho
     clear hd
     unfold GivesOp
     go_simp
     exact ⟨gnae (Ext.refl _) (by decide) (by decide), rfl⟩
    intro vs W hW hR
    rw [if_neg (by decide +kernel)]
    obtain ⟨g, cp, h6, hs6⟩ : ∃ (g : Nat) (cp : Nat), vs 6 = .slice (some ⟨g, 0, none⟩) (en + 1) cp /\ (W.ownsRow w12.heap.size 93 4 (.slice (some ⟨g, 0, none⟩) (en + 1) cp) (en + 1) (evs.flatMap EdmV.cells ++ [Value.int .i64 pf, .int .i64 pt', .slice ra rn rc, .slice ya yn yc])) := hR 6 (by simp) (by omega)
    have HS6 := hI hs6
    clear hs6
    have h7 : vs 7 = .pointer (some ⟨bY, 1, none⟩) := hR 7 (by simp) (by omega)
    have hby := hW.blk HBY.out
    unfold WBox at hby
    obtain ⟨u0, u1, uf⟩ := blk2 hby
    have hlu := blk_lt hby
    clear hby
    refine wpOp_lastG rfl ?_
    change wpList _ _ _ [⟨none, .store _ (.tmp 92) (.tmp 91), _, _, _, none⟩] _ _
    simp only [acts, dstAt, List.range, List.range.loop, List.foldl_cons, List.foldl_nil, h6, h7]
    go_simp
    have hW2 : Ext w12 W := hW
    clear hR hW h6 h7
    have HW2 := hI hW2
    clear hW2
    go_upto_region 18 with fail
    obtain ⟨w14, hw14⟩ : ∃ w14, w14 = W.setCell ⟨bY, 1, none⟩ (.slice (some ⟨g, 0, none⟩) (en + 1) cp) := ⟨_, rfl⟩
    have hcs : Chg [bY] W w14 := by rw [hw14]; exact (Chg.refl [bY] _).setCell (Or.inl (by simp)) _
    have hby0 := HW2.out.blk HBY.out
    unfold WBox at hby0
    have hby14 : w14.heap[bY]? = some (.cells #[.slice ca cn cc, .slice (some ⟨g, 0, none⟩) (en + 1) cp] 30 (0, 0)) := by rw [hw14]; exact heap_setCell_same W bY 1 _ _ _ hby0
    have HX14 := hI (show Ext w11 w14 from hcs.ext (HX12.out.trans HW2.out) (fun y hy => by simp at hy; omega))
    have HB14 := hI hby14
    have HD14 := hI (HD11.out.ext HX14.out)
    have HC14 := hI (HC11.out.then (HX14.out.chg [bd]))
    have HBW14 := hI (HX14.out.blk HBW11.out)
    have HSX14 := hI (HX14.out.blk HSX11.out)
    have HO14 := hI (show w14.ownsRow w12.heap.size 93 4 (.slice (some ⟨g, 0, none⟩) (en + 1) cp) (en + 1) ((evs ++ [YV]).flatMap EdmV.cells) by
     have h1 := owns_chg HS6.out hcs (fun q hq hm => by have := (HS6.out.lt q hq).1; simp only [List.mem_singleton] at hm; omega)
     rw [HYV.out]
     simpa [EdmV.cells] using h1)
    have hgl := (HO14.out.lt g rfl).1
    have HED14 := hI (show EdSt (mask w14 (bd :: bw :: M2)) (evs ++ [YV]) (some ⟨g, 0, none⟩) (en + 1) cp from edSt_snoc HO14.out HENL.out
     (fun hm => by
      have hz12 := HX12.out.size
      simp only [List.mem_cons] at hm
      rcases hm with h | h | h
      ·omega
      ·omega
      have := HM2.out g h; omega)
     (fun u hu => ⟨((HEDS.out.2.2.2.2 u hu).1.mono (mask_ext _ HX14.out)).mono (mask_less _ (fun y hy => List.mem_cons_of_mem _ hy)), (HEDS.out.2.2.2.2 u hu).2⟩)
     (by rw [HYV.out]; exact ⟨⟨(HSTR11.out.mono (mask_ext _ HX14.out)).mono (mask_less _ (fun y hy => List.mem_cons_of_mem _ hy)), (HYC.out.mono (mask_ext _ HX14.out)).mono (mask_less _ (fun y hy => List.mem_cons_of_mem _ hy))⟩, by have h1 := HRNE.out; show rl.length <= 50; omega, HRSZ.out, HYOK.out⟩))
    have HCL14 := hI (show IsClas (mask w14 (bd :: bw :: M2)) cls ca cn cc from (HCL11.out.mono (mask_ext _ HX14.out)).mono (mask_less _ (fun y hy => List.mem_cons_of_mem _ hy)))
    have HYW := hI (show IsWrd w14 ⟨cls, (evs ++ [YV]).map (·.x)⟩ (.agg #[.slice ca cn cc, .slice (some ⟨g, 0, none⟩) (en + 1) cp]) from ⟨ca, cn, cc, some ⟨g, 0, none⟩, en + 1, cp, rfl, HCL14.out.mono (mask_sub _ _), (HED14.out.edms).mono (mask_sub _ _)⟩)
    have HYO := hI (show WrdOk ⟨cls, (evs ++ [YV]).map (·.x)⟩ from ⟨HCOK.out, by have := HENL.out; simp; omega, fun y hy => by
     obtain ⟨u, hu, rfl⟩ := List.mem_map.1 hy
     exact (HED14.out.2.2.2.2 u hu).2⟩)
    have HWC := hI (HWE.out _ _ w14 (HCX.out.then HC14.out) HYW.out HYO.out)
    have hlY := blk_lt hby14
    have hls := blk_lt HSX14.out
    rw [<- hw14]
    clear hw14 hcs hby0 hby14 x0 x1 x2 x3 xf b0' b1' bf' hlbw11 hlx11 u0 u1 uf hlu
    obtain ⟨y0, y1, yf⟩ := blk2 HB14.out
    obtain ⟨s0, sf⟩ := blk1 HSX14.out
    go_wp2_with fail
    refine HWC.out.mono ?_
    rintro r w15 ⟨e1, e2, e3, rfl, hx15⟩
    have HX15 := hI hx15
    have HB15 := hI (hx15.blk HB14.out)
    have HBW15 := hI (hx15.blk HBW14.out)
    have HD15 := hI (HD14.out.ext hx15)
    have HC15 := hI (HC14.out.then (hx15.chg [bd]))
    have HED15 := hI (HED14.out.mono (mask_ext _ hx15))
    have HCL15 := hI (HCL14.out.mono (mask_ext _ hx15))
    have HPN := hI (HP.out.next HC15.out HD15.out hbw hbwl hkp)
    clear hx15 y0 y1 yf s0 sf hlY hls
    have hbw15 := HBW15.out
    unfold WBox at hbw15
    obtain ⟨z0, z1, zf⟩ := blk2 hbw15
    obtain ⟨y0, y1, yf⟩ := blk2 HB15.out
    have hlz := blk_lt hbw15
    have hlY := blk_lt HB15.out
    have HKEEP := hI (show ∀ W, W = put2 w15 bw (.slice ca cn cc) (.slice (some ⟨g, 0, none⟩) (en + 1) cp) -> WrP w0 w bd bw (bd :: bw :: M2) (.cells #[.slice sa sn sc] 25 (0, 0)) (WBox none 0 0 none 0 0) (K - 1) cls (evs ++ [YV]) ca cn cc (some ⟨g, 0, none⟩) (en + 1) cp W from by
     rintro W rfl
     have hcw : Chg [bw] w15 (put2 w15 bw (.slice ca cn cc) (.slice (some ⟨g, 0, none⟩) (en + 1) cp)) := put2_chg _ _
     exact ⟨by omega, by simp; omega, HCOK.out, HCL15.out.mono (mask_step hcw (by simp)), HED15.out.mono (mask_step hcw (by simp)), put2_blk hbw15, hcw.blk HPN.out.sbox (by simp; omega), hcw.blk HPN.out.rbox (by simp; omega), HD15.out.chg hcw (by simp; omega) (by simp; omega), HPN.out.chg.trans hcw (fun y hy => Or.inr (by simp at hy; omega))⟩)
    clear hbw15
    by_cases he : e3 = 0
    ·have t5 : (e3 == 0) = true := by simp [he]
     clear he
     go_wp2_with fail
     generalize hwz : World.setCell _ _ _ = wz
     go_roundw
     case rel => exact ⟨K - 1, cls, evs ++ [YV], ca, cn, cc, some ⟨g, 0, none⟩, en + 1, cp, by go_num, HKEEP.out _ hwz.symm⟩
     case measure => simp [intOf]; omega
    have t5 : (e3 == 0) = false := by simp [he]
    clear he
    cases sound
    ·go_wp2_with fail
     generalize hwz : World.setCell _ _ _ = wz
     go_roundw
     case rel => exact ⟨K - 1, cls, evs ++ [YV], ca, cn, cc, some ⟨g, 0, none⟩, en + 1, cp, by go_num, HKEEP.out _ hwz.symm⟩
     case measure => simp [intOf]; omega
    go_wp2_with fail
    go_roundw
    case rel => exact ⟨K - 1, cls, evs, ca, cn, cc, ea, en, ec, by go_num, HPN.out⟩
    case measure => simp [intOf]; omega
   have t3 : decide ((I : Int) < (cn : Int)) = true := decide_eq_true (by omega)
   have hil : I < cls.length := by have := HCN.out; omega
   go_wp2_with fail
   refine (next_calls HDI.out 4 (by omega) (by omega)).mono ?_
   rintro r w9 ⟨q9, rfl, hq90, hq91, hd9, hc9⟩
   have HQ9 := hI (HQ.out.step (by omega) hc9 hd9)
   have hz9 := hc9.size
   clear hd9 hc9 b0 b1 bf HQ
   by_cases hq1 : q9 = 1
   case neg =>
    have t4 : (q9 == 1) = false := by simp [hq1]
    clear hq1
    go_wp2_with fail
    go_roundw
    case rel => exact ⟨I + 1, rl, ra, rn, rc, by go_num, by omega, HQ9.out.more⟩
    case measure => simp [intOf]; omega
   subst hq1
   obtain ⟨cb, coff, cv, hcb, hcla, hrow⟩ := HCL8.out.at hil
   subst hcb
   obtain ⟨nm, hnm⟩ : ∃ nm, nm = cv.name := ⟨_, rfl⟩
   have HNM := hI (show nm.size <= 100 by rw [hnm, hcla.2.1]; exact (HCOK.out.2.2 _ (List.getElem_mem hil)).2)
   have hcbb : cb ∉ (bx :: bd :: bw :: M2) := by
    intro hm
    have h0 := hrow 0 (by simp [ClV.len])
    rw [mask_cell, if_pos hm] at h0
    cases h0
   have hcblt : cb < w8.heap.size := by have := block_lt (hrow.mono (mask_sub _ _)).ten.1; simpa using this
   have hc1 := HQ9.out.chg.cell (hrow.mono (mask_sub _ _)).ten.2.1 (fun hm => hcbb (by simp at hm; rcases hm with h | h <;> simp [h]))
   rw [<- hnm] at hc1
   have HBX9 := hI HQ9.out.box
   have HOW9 := hI HQ9.out.own
   have HBW9 := hI (HQ9.out.chg.blk HBW8.out (by simp; omega))
   clear hcla hrow hnm
   have HNR := hI (show bx ∉ (bd :: rowOf (.slice ra rn rc)) /\ bw ∉ (bd :: rowOf (.slice ra rn rc)) /\ bd ∉ rowOf (.slice ra rn rc) from by
    have hr : ∀ z ∈ rowOf (.slice ra rn rc), w8.heap.size <= z := fun z hz => (HOW9.out.lt z (mem_rowOf.1 hz)).1
    refine ⟨fun hm => ?_, fun hm => ?_, fun hm => by have := hr _ hm; omega⟩
    ·rcases List.mem_cons.1 hm with e | e
     ·omega
     have := hr _ e; omega
    rcases List.mem_cons.1 hm with e | e
    ·omega
    have := hr _ e; omega)
   have HRL := hI (show ∀ z ∈ rowOf (.slice ra rn rc), w8.heap.size <= z from fun z hz => (HOW9.out.lt z (mem_rowOf.1 hz)).1)
   have HCB := hI (show ∀ W, Chg (bd :: rowOf (.slice ra rn rc)) w9 W -> W.cell? ⟨cb, coff + I * 10 + 1, none⟩ = some (.string nm) from fun W hW => hW.cell hc1 (fun hm => by
    rcases List.mem_cons.1 hm with e | e
    ·exact hcbb (by simp at e; simp [e])
    have := (HOW9.out.lt cb (mem_rowOf.1 e)).1; omega))
   have HD9 := hI HQ9.out.deck
   have HIN := hI hIn
   have HLW := hI (show bd < w8.heap.size /\ w8.heap.size <= w9.heap.size /\ w0.heap.size <= w8.heap.size from ⟨by omega, HQ9.out.chg.size, by have := HW0.out; omega⟩)
   clear hc1
   go_upto_region 13 with fail
   refine wp_region_growLG (n := 108) (m := 11) [9, 10] (GnLw w0 w9 bd 9 (rowOf (.slice ra rn rc))) (GnB bd 9 (rowOf (.slice ra rn rc))) (GrP (dw13R w8 bd bw bx cb coff cn cc I nm rl ra rn rc)) (by kernel_rfl) (by kernel_rfl) (Nat.le_of_ble_eq_true rfl) ?gd (gnlw_start HD9.out) ?_ ?_ ?_
   case gd =>
    intro i o j b hi ho hg
    rcases ltc11 hi with rfl | rfl | rfl | rfl | rfl | rfl | rfl | rfl | rfl | rfl | rfl <;> (cases ho; first | (cases hg; done) | (cases hg; intro v W h; exact h))
   ·intro i k v W W' hi hk hne hout h hE
    have hi' := ltc11 hi
    clear hi hk
    by_cases hk : k = 9
    ·subst hk
     rcases hi' with rfl | rfl | rfl | rfl | rfl | rfl | rfl | rfl | rfl | rfl | rfl
     ·exact h
     ·exact h
     ·exact h
     ·exact h
     ·exact h
     ·exact h
     ·exact h
     ·exact h
     ·exact absurd hout (by decide +kernel)
     ·exact absurd rfl hne
     exact h
    have hE : Chg [bd] W W' := (by have h9 := hE; unfold GnB at h9; rwa [if_neg hk] at h9)
    rcases hi' with rfl | rfl | rfl | rfl | rfl | rfl | rfl | rfl | rfl | rfl | rfl
    ·exact h
    ·exact h
    ·exact h
    ·exact h
    ·exact h
    ·exact h
    ·exact h
    ·exact h
    ·obtain ⟨g, e0, h⟩ := h
     exact ⟨g, e0, ⟨hE.blk h.1 (by simpa using h.2), h.2⟩⟩
    ·obtain ⟨g2, cp, e0, h⟩ := h
     exact ⟨g2, cp, e0, owns_chg h hE (fun q hq hm => by have := (h.lt q hq).1; simp only [List.mem_singleton] at hm; have := HLW.out; omega)⟩
    exact h
   ·intro q op hq ho L vs W hqL hcL hW hd ρ hρ
    have hq' := ltc11 hq
    clear hq
    have o12 : ρ (.tmp 12) = .pointer (some ⟨bx, 0, none⟩) := hρ.out 12 rfl
    have i0 := hρ.i 0 62
    have o9 : ρ (.tmp 9) = .pointer (some ⟨bw, 0, none⟩) := hρ.out 9 rfl
    have i2 := hρ.i 2 64
    have o13 : ρ (.tmp 13) = .int .i64 ((I : Nat) : Int) := hρ.out 13 rfl
    have i3 := hρ.i 3 65
    have i4 := hρ.i 4 66
    have i5 := hρ.i 5 67
    have i6 := hρ.i 6 68
    have i7 := hρ.i 7 69
    have i1 := hρ.i 1 63
    have i8 := hρ.i 8 70
    have hc := hρ.const
    have hfn := hρ.func
    clear hρ
    have HG := hI hW
    have HW := hI (show DeckAt w0 W bd /\ Chg (bd :: rowOf (.slice ra rn rc)) w9 W from ⟨hW.1, hW.2.1⟩)
    have HQL := hI hqL
    clear hW hqL hcL
    rcases hq' with rfl | rfl | rfl | rfl | rfl | rfl | rfl | rfl | rfl | rfl | rfl
    ·cases ho
     clear hd
     unfold GivesOp
     go_simp
     exact ⟨Chg.refl _ _, gnlw_step HG.out HW.out.1 (Chg.refl _ _), rfl⟩
    ·cases ho
     have h0 : vs 0 = _ := hd ⟨0, .data⟩ (by simp) rfl
     rw [h0] at i0
     clear hd
     have g2 := (blk4c (HW.out.2.blk HBX9.out HNR.out.1)).2.2.1
     unfold GivesOp
     go_simp
     exact ⟨Chg.refl _ _, gnlw_step HG.out HW.out.1 (Chg.refl _ _), rfl⟩
    ·cases ho
     clear hd
     unfold GivesOp
     go_simp
     exact ⟨Chg.refl _ _, gnlw_step HG.out HW.out.1 (Chg.refl _ _), rfl⟩
    ·cases ho
     have h2 : vs 2 = _ := hd ⟨2, .data⟩ (by simp) rfl
     rw [h2] at i2
     clear hd
     have hb9 := HW.out.2.blk HBW9.out HNR.out.2.1
     unfold WBox at hb9
     have g3 := (blk2 hb9).1
     unfold GivesOp
     go_simp
     exact ⟨Chg.refl _ _, gnlw_step HG.out HW.out.1 (Chg.refl _ _), rfl⟩
    ·cases ho
     clear hd
     unfold GivesOp
     go_simp
     exact ⟨Chg.refl _ _, gnlw_step HG.out HW.out.1 (Chg.refl _ _), rfl⟩
    ·cases ho
     have h3 : vs 3 = _ := hd ⟨3, .data⟩ (by simp) rfl
     rw [h3] at i3
     have h4 : vs 4 = _ := hd ⟨4, .data⟩ (by simp) rfl
     rw [h4] at i4
     clear hd
     have r0 : (0 : Int) <= ((I : Nat) : Int) := by omega
     have r1 : ((I : Nat) : Int) < ((cn : Nat) : Int) := by have := HIN.out; omega
     unfold GivesOp
     go_simp
     exact ⟨Chg.refl _ _, gnlw_step HG.out HW.out.1 (Chg.refl _ _), rfl⟩
    ·cases ho
     have h5 : vs 5 = _ := hd ⟨5, .data⟩ (by simp) rfl
     rw [h5] at i5
     clear hd
     unfold GivesOp
     go_simp
     exact ⟨Chg.refl _ _, gnlw_step HG.out HW.out.1 (Chg.refl _ _), rfl⟩
    ·cases ho
     have h6 : vs 6 = _ := hd ⟨6, .data⟩ (by simp) rfl
     rw [h6] at i6
     clear hd
     have g4 := HCB.out W HW.out.2
     unfold GivesOp
     go_simp
     exact ⟨Chg.refl _ _, gnlw_step HG.out HW.out.1 (Chg.refl _ _), rfl⟩
    ·cases ho
     have h7 : vs 7 = _ := hd ⟨7, .data⟩ (by simp) rfl
     rw [h7] at i7
     clear hd
     unfold GivesOp
     go_simp
     exact ⟨((Ext.refl W).alloc _).chg _, gnlw_step HG.out (HW.out.1.ext ((Ext.refl W).alloc _)) (((Ext.refl W).alloc _).chg _), W.heap.size, rfl, alloc_new W _, by have := HW.out.1.lt; omega⟩
    ·cases ho
     have h1 : vs 1 = _ := hd ⟨1, .data⟩ (by simp) rfl
     rw [h1] at i1
     obtain ⟨g, h8, hs8⟩ : ∃ (g : Nat), vs 8 = .slice (some ⟨g, 0, none⟩) 1 1 /\ (W.heap[g]? = some (.cells #[.string nm] 9 (0, 0)) /\ g ≠ bd) := hd ⟨8, .data⟩ (by simp) rfl
     have HS8 := hI hs8
     clear hs8
     rw [h8] at i8
     clear hd
     have ho0 := owns_chg HOW9.out (HG.out.2.2 HQL.out) (fun q hq hm => by simp only [List.mem_singleton] at hm; have := (HOW9.out.lt q hq).1; have := HLW.out; omega)
     refine gives_append elemStr _ _ w8.heap.size _ rn _ i1 g 1 1 [.string nm] i8 rfl (by simp [Value.oneCell']) (by omega) (by omega) (by omega) ho0 (fun j hj => by have h0 : j = 0 := (by simpa using hj); subst h0; rw [blk_cell HS8.out.1]; rfl) (by have := HW.out.2.size; have := HLW.out; omega) ?_
     intro g2 cap w2 ho2 hg2 hw2 hlt2
     have hcg : Chg (rowOf (.slice ra rn rc)) W w2 := grown_chg hg2
     have hcb : Chg (bd :: rowOf (.slice ra rn rc)) W w2 := hcg.weak (fun y hy => List.mem_cons_of_mem _ hy)
     exact ⟨hcb, gnlw_brk HG.out (HW.out.1.chg hcg HNR.out.2.2 (fun q hq => by have := HRL.out q hq; have := HLW.out; omega)) hcb, g2, cap, rfl, ho2⟩
    cases ho
    clear hd
    unfold GivesOp
    go_simp
    exact ⟨Chg.refl _ _, gnlw_step HG.out HW.out.1 (Chg.refl _ _), rfl⟩
   intro L vs W hLm hW hR
   rw [if_neg (by decide +kernel)]
   obtain ⟨g2, cp, h9, hs9⟩ : ∃ (g2 : Nat) (cp : Nat), vs 9 = .slice (some ⟨g2, 0, none⟩) (rn + 1) cp /\ (W.ownsRow w8.heap.size 9 1 (.slice (some ⟨g2, 0, none⟩) (rn + 1) cp) (rn + 1) (rl.flatMap strCells ++ [Value.string nm])) := hR 9 (by simp) (by omega)
   have HS9 := hI hs9
   clear hs9
   have h10 : vs 10 = .pointer (some ⟨bx, 2, none⟩) := hR 10 (by simp) (by omega)
   obtain ⟨x0, x1, x2, x3, xf⟩ := blk4c (hW.2.1.blk HBX9.out HNR.out.1)
   have hlx := blk_lt (hW.2.1.blk HBX9.out HNR.out.1)
   refine wpOp_lastG rfl ?_
   change wpList _ _ _ [⟨none, .store _ (.tmp 72) (.tmp 71), _, _, _, none⟩] _ _
   simp only [acts, dstAt, List.range, List.range.loop, List.foldl_cons, List.foldl_nil, h9, h10]
   go_simp
   have hW2 : DeckAt w0 W bd /\ Chg (bd :: rowOf (.slice ra rn rc)) w9 W := ⟨hW.1, hW.2.1⟩
   clear hR hW hLm h9 h10
   have HW2 := hI hW2
   clear hW2
   go_wp2_with fail
   go_roundw
   case rel =>
    have hcs : Chg [bx] W (W.setCell ⟨bx, 2, none⟩ (.slice (some ⟨g2, 0, none⟩) (rn + 1) cp)) := (Chg.refl [bx] _).setCell (Or.inl (by simp)) _
    refine ⟨I + 1, rl ++ [nm], some ⟨g2, 0, none⟩, rn + 1, cp, by go_num, by omega, ⟨?_, ?_, ?_, ?_, ?_, ?_, ?_⟩⟩
    ·have := HQ9.out.len; simp; omega
    ·intro y hy
     rcases List.mem_append.1 hy with h | h
     ·exact HQ9.out.sz y h
     simp only [List.mem_singleton] at h; rw [h]; exact HNM.out
    ·rw [List.length_append, <- HRNE.out]; rfl
    ·have := owns_chg HS9.out hcs (fun q hq hm => by have := (HS9.out.lt q hq).1; simp only [List.mem_singleton] at hm; omega)
     simpa [strCells] using this
    ·exact heap_setCell_same W bx 2 _ _ _ (HW2.out.2.blk HBX9.out HNR.out.1)
    ·exact HW2.out.1.chg hcs (by simp; omega) (by simp; have := HW0.out; omega)
    exact (HQ9.out.chg.trans HW2.out.2 (fun y hy => by
     rcases List.mem_cons.1 hy with e | e
     ·exact Or.inl (by simp [e])
     exact Or.inr (HRL.out y e))).then (hcs.weak (fun y hy => by simp at hy; simp [hy]))
   case measure => simp [intOf]; omega
end Go.Proofs.YtefjomofjejklaaGreat
