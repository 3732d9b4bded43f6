/-
  Texts of the claim, joined: GenL, First, Term.
-/
import Derived.Test.YtefjomofjejklaaGreatDoorDt17
namespace Go.Proofs.YtefjomofjejklaaGreatDoor
set_option maxRecDepth 100000
set_option maxHeartbeats 32000000
open Go.RowKit
def exT : Ex := .mk 1 ⟨#[]⟩ [] 0 0 []
def ClaG (attrs : List Attr) (names : ZB) (kd : Int) (nm : BA) (c : Cla) : Prop := c.kind = kd /\ c.name = nm /\ MadeE attrs names 3 c.cond /\ ((kd = 3 /\ WbM attrs names c.unl /\ wbN c.unl <= 6) \/ c.unl = []) /\ AmtOk kd c.amount /\ CGood c
def FirstOk (attrs : List Attr) (p : BA) (c : Cla) : Prop := c.kind = 2 /\ c.name = lettersB p 0 /\ (MadeE attrs [] 3 c.cond \/ c.cond = exT) /\ c.unl = [] /\ c.amount = 0
def GLOk (attrs : List Attr) (p : BA) (l : List Cla) : Prop := (∀ c ∈ l, CGood c /\ c.name.size = p.size + 2) /\ ((∃ c, l = [c] /\ FirstOk attrs p c) \/ clausesErr attrs l = (0, 0))
def zeroClO : Obj := .cells #[.int .i64 0, .string ⟨#[]⟩, .int .i64 0, .string ⟨#[]⟩, .slice none 0 0, .int .i64 0, .int .i64 0, .slice none 0 0, .slice none 0 0, .int .i64 0] 48 (0, 0)
def GnA (a b k : Nat) (W W' : World) : Prop := (k ≠ a -> k ≠ b -> Ext W W') /\ (k = a -> ∃ x, Chg [x] W W' /\ W.heap[x]? = some (.cells #[] 48 (0, 0))) /\ (k = b -> True)
theorem gna {a b k : Nat} {W W' : World} (h : Ext W W') (ha : k ≠ a) (_hb : k ≠ b) : GnA a b k W W' := ⟨fun _ _ => h, fun e => absurd e ha, fun _ => trivial⟩
theorem owns_extG {w w' : World} {base : Nat} {e : TypeId} {size : Nat} {v : Value} {n : Nat} {xs : List Value} (h : w.ownsRow base e size v n xs) (hx : Ext w w') : w'.ownsRow base e size v n xs := owns_chg h (hx.chg []) (by simp)
def GnV (w0 w2 : World) (attrs : List Attr) (names : ZB) (bd : Nat) (N : ZN) (nm : BA) (L : ZN) (vs : Nat -> Value) (W : World) : Prop := DeckAt w0 W bd /\ Chg [bd] w2 W /\
 (8 ∈ L -> ∃ c cv, vs 8 = clV cv /\ IsCla (mask W N) c cv /\ ClaG attrs names c.kind nm c) /\ (9 ∈ L -> ∃ g, vs 9 = .pointer (some ⟨g, 0, none⟩) /\ W.heap[g]? = some zeroClO /\ w2.heap.size <= g) /\
 (8 ∈ L -> 9 ∈ L -> ∃ c cv g, vs 8 = clV cv /\ vs 9 = .pointer (some ⟨g, 0, none⟩) /\ IsCla (mask W (N ++ [g])) c cv /\ ClaG attrs names c.kind nm c /\ W.heap[g]? = some zeroClO /\ w2.heap.size <= g)
section
variable {w0 w2 W W' : World} {attrs : List Attr} {names : ZB} {bd : Nat} {N : ZN} {nm : BA} {L : ZN} {vs : Nat -> Value}
theorem gnv_step {i : Nat} {v : Value} (h8 : i ≠ 8) (h9 : i ≠ 9) (h : GnV w0 w2 attrs names bd (bd :: N) nm L vs W) (hd : DeckAt w0 W' bd) (hc : Chg [bd] W W') : GnV w0 w2 attrs names bd (bd :: N) nm (L ++ [i]) (upd vs i v) W' := by
 have e8 : upd vs i v 8 = vs 8 := by unfold upd; rw [if_neg (Ne.symm h8)]
 have e9 : upd vs i v 9 = vs 9 := by unfold upd; rw [if_neg (Ne.symm h9)]
 have hbd := h.1.lt
 refine ⟨hd, h.2.1.then hc, fun hm => ?_, fun hm => ?_, fun hm hm2 => ?_⟩
 ·rw [e8]
  obtain ⟨c, cv, q1, q2, q3⟩ := h.2.2.1 (by rcases List.mem_append.1 hm with h' | h'; exact h'; simp at h'; omega)
  exact ⟨c, cv, q1, q2.mono (mask_step hc (by simp)), q3⟩
 ·rw [e9]
  obtain ⟨g, q1, q2, q3⟩ := h.2.2.2.1 (by rcases List.mem_append.1 hm with h' | h'; exact h'; simp at h'; omega)
  have hb0 : bd < w2.heap.size \/ g ≠ bd := by
   by_cases e : g = bd
   ·subst e; exfalso; obtain ⟨la, ln, lc, k, hb, _⟩ := h.1; rw [q2] at hb; cases hb
   exact Or.inr e
  have hgb : g ≠ bd := by
   intro e; subst e; obtain ⟨la, ln, lc, k, hb, _⟩ := h.1; rw [q2] at hb; cases hb
  exact ⟨g, q1, hc.blk q2 (by simpa using hgb), q3⟩
 rw [e8, e9]
 obtain ⟨c, cv, g, q1, q2, q3, q4, q5, q6⟩ := h.2.2.2.2 (by rcases List.mem_append.1 hm with h' | h'; exact h'; simp at h'; omega) (by rcases List.mem_append.1 hm2 with h' | h'; exact h'; simp at h'; omega)
 have hgb : g ≠ bd := by
  intro e; subst e; obtain ⟨la, ln, lc, k, hb, _⟩ := h.1; rw [q5] at hb; cases hb
 exact ⟨c, cv, g, q1, q2, q3.mono (mask_step hc (by simp)), q4, hc.blk q5 (by simpa using hgb), q6⟩
theorem gnv_pick (h : GnV w0 w2 attrs names bd N nm L vs W) : ∃ Z : ZN, (∀ y ∈ Z, y < W.heap.size) /\ (9 ∈ L -> ∃ g, Z = [g] /\ vs 9 = .pointer (some ⟨g, 0, none⟩) /\ W.heap[g]? = some zeroClO /\ w2.heap.size <= g) /\ True := by
 by_cases h9 : 9 ∈ L
 ·obtain ⟨g, q1, q2, q3⟩ := h.2.2.2.1 h9
  exact ⟨[g], by simp; exact blk_lt q2, fun _ => ⟨g, rfl, q1, q2, q3⟩, trivial⟩
 exact ⟨[], by simp, fun h' => absurd h' h9, trivial⟩
theorem gnv_8 {c : Cla} {cv : ClV} {Z : ZN} (h : GnV w0 w2 attrs names bd (bd :: N) nm L vs W) (hd : DeckAt w0 W' bd) (hc : Chg [bd] W W') (hi : IsCla (mask W' ((bd :: N) ++ Z)) c cv) (hg : ClaG attrs names c.kind nm c) (hz : 9 ∈ L -> ∃ g, Z = [g] /\ vs 9 = .pointer (some ⟨g, 0, none⟩) /\ W.heap[g]? = some zeroClO /\ w2.heap.size <= g) (_ : True) : GnV w0 w2 attrs names bd (bd :: N) nm (L ++ [8]) (upd vs 8 (clV cv)) W' := by
 have e8 : upd vs 8 (clV cv) 8 = clV cv := by simp [upd]
 have e9 : upd vs 8 (clV cv) 9 = vs 9 := by simp [upd]
 have gb : ∀ g, W.heap[g]? = some zeroClO -> W'.heap[g]? = some zeroClO := fun g q => hc.blk q (by
  intro e; simp at e; subst e; obtain ⟨la, ln, lc, k, hb, _⟩ := h.1; rw [q] at hb; cases hb)
 refine ⟨hd, h.2.1.then hc, fun _ => ⟨c, cv, e8, hi.mono (mask_less _ (fun y hy => by simp at hy ⊢; rcases hy with h | h <;> simp [h])), hg⟩, fun hm => ?_, fun _ hm => ?_⟩
 ·rw [e9]
  obtain ⟨g, _, q1, q2, q3⟩ := hz (by simpa using hm)
  exact ⟨g, q1, gb g q2, q3⟩
 rw [e8, e9]
 obtain ⟨g, rfl, q1, q2, q3⟩ := hz (by simpa using hm)
 exact ⟨c, cv, g, rfl, q1, hi, hg, gb g q2, q3⟩
theorem gnv_9 (h : GnV w0 w2 attrs names bd N nm L vs W) (_ : 9 ∉ L) : GnV w0 w2 attrs names bd N nm (L ++ [9]) (upd vs 9 (.pointer (some ⟨W.heap.size, 0, none⟩))) (W.alloc zeroClO) := by
 have e8 : upd vs 9 (.pointer (some ⟨W.heap.size, 0, none⟩)) 8 = vs 8 := by simp [upd]
 have e9 : upd vs 9 (.pointer (some ⟨W.heap.size, 0, none⟩)) 9 = .pointer (some ⟨W.heap.size, 0, none⟩) := by simp [upd]
 have hz := h.2.1.size
 refine ⟨h.1.ext ((Ext.refl W).alloc _), h.2.1.then (((Ext.refl W).alloc _).chg _), fun hm => ?_, fun _ => ⟨W.heap.size, e9, alloc_new W _, hz⟩, fun hm _ => ?_⟩
 ·rw [e8]
  obtain ⟨c, cv, q1, q2, q3⟩ := h.2.2.1 (by simpa using hm)
  exact ⟨c, cv, q1, q2.mono (mask_sub_mask fun k hk hn => ⟨hn, Below.heap_alloc W _ k hk⟩), q3⟩
 rw [e8, e9]
 obtain ⟨c, cv, q1, q2, q3⟩ := h.2.2.1 (by simpa using hm)
 exact ⟨c, cv, W.heap.size, q1, rfl, q2.mono (mask_sub_mask fun k hk hn => ⟨by simp only [List.mem_append, List.mem_singleton, not_or]; exact ⟨hn, by omega⟩, Below.heap_alloc W _ k hk⟩), q3, alloc_new W _, hz⟩
end
theorem owns_lowG {w : World} {base base' : Nat} {e : TypeId} {size : Nat} {v : Value} {n : Nat} {xs : List Value} (h : w.ownsRow base e size v n xs) (hb : base' <= base) : w.ownsRow base' e size v n xs := by
 refine ⟨h.1, ?_⟩
 rcases h.2 with h2 | ⟨g, cap, cur, h3, h4, h5⟩
 ·exact Or.inl h2
 exact Or.inr ⟨g, cap, cur, h3, Nat.le_trans hb h4, h5⟩
theorem keep_rows {W w2 : World} {bd : Nat} {M : ZN} {v v' : Value} (hc : Chg (rowOf v) W w2) (hg : ∀ k, v'.ownBlock = some k -> v.ownBlock = some k \/ W.heap.size <= k) : Sub (mask W (bd :: rowOf v ++ M)) (mask w2 (bd :: rowOf v' ++ M)) := by
 refine mask_sub_mask fun k hk hn => ⟨fun hm => ?_, hc.block k hk fun hm => hn (by simp [hm])⟩
 simp only [List.cons_append, List.mem_cons, List.mem_append] at hm hn
 rcases hm with h | h | h
 ·exact hn (Or.inl h)
 ·rcases hg k (mem_rowOf.1 h) with e | e
  ·exact hn (Or.inr (Or.inl (mem_rowOf.2 e)))
  omega
 exact hn (Or.inr (Or.inr h))
def gl2R (attrs : List Attr) (names : ZB) (p : BA) (bd lw : Nat) (N : ZN) (sa : OA) (sn sc : Nat) (kd : Int) (nm : BA) : Nat -> Value -> World -> Prop
 | 0, u, _ => u = .pointer (some ⟨bd, 0, none⟩)
 | 1, u, _ => u = .agg #[.slice sa sn sc]
 | 2, u, _ => u = .string p
 | 3, u, _ => u = .string (lettersB p 0)
 | 4, u, W => ∃ (c : Cla) (cv : ClV), u = .agg #[.int .i64 cv.kind, .string cv.name, .int .i64 cv.x.op, .string cv.x.name, .slice cv.x.aw cv.x.nw cv.x.cw, .int .i64 cv.x.lo, .int .i64 cv.x.hi, .slice cv.x.aa cv.x.na cv.x.ca, .slice cv.au cv.nu cv.cu, .int .i64 cv.amount] /\ (IsCla (mask W N) c cv /\ ClaG attrs names kd nm c)
 | 5, u, W => ∃ (c : Cla) (cv : ClV) (g : Nat), u = .slice (some ⟨g, 0, none⟩) 1 1 /\ (W.heap[g]? = some (.cells cv.cells.toArray 48 (0, 0)) /\ lw <= g /\ g ≠ bd /\ IsCla (mask W N) c cv /\ ClaG attrs names kd nm c)
 | _, u, W => ∃ (c : Cla) (cv : ClV) (g : Nat), u = .slice (some ⟨g, 0, none⟩) 1 1 /\ (W.heap[g]? = some (.cells cv.cells.toArray 48 (0, 0)) /\ lw <= g /\ g ≠ bd /\ IsCla (mask W N) c cv /\ ClaG attrs names kd nm c)
def gl8R (p : BA) (bd : Nat) (sa : OA) (sn sc : Nat) (K : Nat) (nm : BA) (an : OA) (names : ZB) (cn : Nat) : Nat -> Value -> World -> Prop
 | 0, u, _ => u = .pointer (some ⟨bd, 0, none⟩)
 | 1, u, _ => u = .agg #[.slice sa sn sc]
 | 2, u, _ => u = .pointer (some ⟨bd, 0, none⟩)
 | 3, u, _ => ∃ (kd : Int), u = .int .i64 kd /\ (1 <= kd /\ kd <= 10)
 | 4, u, _ => u = .string p
 | 5, u, _ => u = .int .i64 ((K : Nat) : Int)
 | 6, u, _ => u = .string nm
 | 7, u, _ => u = .slice an names.length cn
 | 8, u, _ => u = u /\ True
 | _, u, _ => u = u /\ True
def gl9R (B lg lc : Nat) (l : List Cla) (cvs : List ClV) (cv : ClV) : Nat -> Value -> World -> Prop
 | 0, u, W => ∃ (g : Nat), u = .slice (some ⟨g, 0, none⟩) 0 0 /\ (B <= g /\ W.heap[g]? = some (.cells #[] 48 (0, 0)))
 | 1, u, _ => u = .slice (some ⟨lg, 0, none⟩) l.length lc
 | 2, u, W => ∃ (g : Nat) (cp : Nat), u = .slice (some ⟨g, 0, none⟩) l.length cp /\ (W.ownsRow B 48 10 (.slice (some ⟨g, 0, none⟩) l.length cp) l.length (cvs.flatMap ClV.cells))
 | 3, u, _ => u = .agg #[.int .i64 cv.kind, .string cv.name, .int .i64 cv.x.op, .string cv.x.name, .slice cv.x.aw cv.x.nw cv.x.cw, .int .i64 cv.x.lo, .int .i64 cv.x.hi, .slice cv.x.aa cv.x.na cv.x.ca, .slice cv.au cv.nu cv.cu, .int .i64 cv.amount]
 | 4, u, W => ∃ (y : Nat), u = .slice (some ⟨y, 0, none⟩) 1 1 /\ (W.heap[y]? = some (.cells cv.cells.toArray 48 (0, 0)))
 | 5, u, W => ∃ (g : Nat) (cp : Nat), u = .slice (some ⟨g, 0, none⟩) (l.length + 1) cp /\ (W.ownsRow B 48 10 (.slice (some ⟨g, 0, none⟩) (l.length + 1) cp) (l.length + 1) (cvs.flatMap ClV.cells ++ cv.cells))
 | _, u, W => ∃ (g : Nat) (cp : Nat), u = .slice (some ⟨g, 0, none⟩) (l.length + 1) cp /\ (W.ownsRow B 48 10 (.slice (some ⟨g, 0, none⟩) (l.length + 1) cp) (l.length + 1) (cvs.flatMap ClV.cells ++ cv.cells))
def CutL (w0 w : World) (attrs : List Attr) (p : BA) (bd bs _lw g : Nat) (N : ZN) (sa : OA) (sn sc : Nat) (wx : World) : Prop := ∃ (c : Cla) (cv : ClV), wx.heap[g]? = some (.cells cv.cells.toArray 48 (0, 0)) /\ IsCla (mask wx N) c cv /\ FirstOk attrs p c /\ CGood c /\ DeckAt w0 wx bd /\ Chg [bd] w wx /\ wx.heap[bs]? = some (.cells #[.slice sa sn sc] 24 (0, 0))
structure GLp (w0 w : World) (attrs : List Attr) (p : BA) (bd bs lw n : Nat) (M : ZN) (sa : OA) (sn sc : Nat) (nv lv : Value) (K : Nat) (names : ZB) (l : List Cla) (cvs : List ClV) (wr : World) : Prop where
 k1 : 1 <= K
 kn : K <= n + 1
 lk : l.length <= K
 l1 : 1 <= l.length
 nk : names.length <= K
 nsz : ∀ x ∈ names, x.size <= 1000
 nown : wr.ownsRow lw 9 1 nv names.length (names.flatMap strCells)
 lown : wr.ownsRow lw 48 10 lv l.length (cvs.flatMap ClV.cells)
 cla : ClasR (mask wr (bd :: rowOf nv ++ M)) l cvs
 apart : ∀ g, lv.ownBlock = some g -> nv.ownBlock ≠ some g
 ok : GLOk attrs p l
 deck : DeckAt w0 wr bd
 chg : Chg [bd] w wr
 box : wr.heap[bs]? = some (.cells #[.slice sa sn sc] 24 (0, 0))
def GLq (w0 w : World) (attrs : List Attr) (p : BA) (bd bs lw n : Nat) (M : ZN) (sa : OA) (sn sc : Nat) (nv lv k : Value) (wr : World) : Prop := ∃ (K : Nat) (names : ZB) (l : List Cla) (cvs : List ClV), k = .int .i64 ((K : Nat) : Int) /\ GLp w0 w attrs p bd bs lw n M sa sn sc nv lv K names l cvs wr
theorem GLp.extd {w0 w : World} {attrs : List Attr} {p : BA} {bd bs lw n : Nat} {M : ZN} {sa : OA} {sn sc : Nat} {nv lv : Value} {K : Nat} {names : ZB} {l : List Cla} {cvs : List ClV} {wr wr' : World} (h : GLp w0 w attrs p bd bs lw n M sa sn sc nv lv K names l cvs wr) (hx : Ext wr wr') : GLp w0 w attrs p bd bs lw n M sa sn sc nv lv K names l cvs wr' :=
 {h with nown := owns_extG h.nown hx, lown := owns_extG h.lown hx, cla := h.cla.mono (mask_step (hx.chg [bd]) (by simp)), deck := h.deck.ext hx, chg := h.chg.then (hx.chg _), box := hx.blk h.box }
theorem clausesErr_zero {s : List Attr} {l : List Cla} (h : (clausesErr s l).2 = 0) : clausesErr s l = (0, 0) := by
 have key : ∀ (f : Nat -> Int) (n : Nat), (firstI f n).2 = 0 -> firstI f n = (0, 0) := by
  intro f n
  induction n with
  | zero => intro _; rfl
  | succ n ih =>
   intro h
   rw [firstI] at h ⊢
   by_cases h1 : (firstI f n).2 ≠ 0
   ·rw [if_pos h1] at h; exact absurd h h1
   rw [if_neg h1] at h ⊢
   by_cases h2 : f n ≠ 0
   ·rw [if_pos h2] at h; exact absurd h h2
   rw [if_neg h2]
 unfold clausesErr at h ⊢
 split at h
 ·rename_i h1; exact absurd h h1
 split at h
 ·simp at h
 split at h
 ·rename_i h1; exact absurd h h1
 split at h
 ·simp at h
 rename_i h1 h2 h3 h4
 rw [if_neg h1, if_neg h2, if_neg h3, if_neg h4]
 exact key _ _ h
theorem attrs_fits {attrs : List Attr} (h : attrs ∈ schemas) : ∀ x ∈ attrs, x.fits := by
 intro x hx
 have := List.all_eq_true.1 (List.all_eq_true.1 schemas_ok3 attrs h) x hx
 simp only [Bool.and_eq_true, decide_eq_true_eq, List.all_eq_true] at this
 exact ⟨by omega, by omega, fun y hy => by have := this.2.2 y hy; omega⟩
def put10 (w : World) (B : Nat) (v : ClV) : World := (((((((((w.setCell ⟨B, 0, none⟩ (.int .i64 v.kind)).setCell ⟨B, 1, none⟩ (.string v.name)).setCell ⟨B, 2, none⟩ (.int .i64 v.x.op)).setCell ⟨B, 3, none⟩ (.string v.x.name)).setCell ⟨B, 4, none⟩ (.slice v.x.aw v.x.nw v.x.cw)).setCell ⟨B, 5, none⟩ (.int .i64 v.x.lo)).setCell ⟨B, 6, none⟩ (.int .i64 v.x.hi)).setCell ⟨B, 7, none⟩ (.slice v.x.aa v.x.na v.x.ca)).setCell ⟨B, 8, none⟩ (.slice v.au v.nu v.cu)).setCell ⟨B, 9, none⟩ (.int .i64 v.amount)
theorem put10_blk {w : World} {B : Nat} (h : w.heap[B]? = some zeroClO) (v : ClV) : (put10 w B v).heap[B]? = some (.cells v.cells.toArray 48 (0, 0)) := by
 unfold put10
 unfold zeroClO at h
 rw [heap_setCell_same _ _ _ _ _ _ (heap_setCell_same _ _ _ _ _ _ (heap_setCell_same _ _ _ _ _ _ (heap_setCell_same _ _ _ _ _ _ (heap_setCell_same _ _ _ _ _ _ (heap_setCell_same _ _ _ _ _ _ (heap_setCell_same _ _ _ _ _ _ (heap_setCell_same _ _ _ _ _ _ (heap_setCell_same _ _ _ _ _ _ (heap_setCell_same _ _ _ _ _ _ h)))))))))]
 simp [ClV.cells]
theorem put10_chg (w : World) (B : Nat) (v : ClV) : Chg [B] w (put10 w B v) := by
 unfold put10
 repeat (with_reducible (refine Chg.setCell ?_ (Or.inl (by simp)) _))
 exact Chg.refl _ _
def GenQ (attrs : List Attr) (p : BA) (n : Nat) (w0 : World) (bd : Nat) (M : ZN) (w : World) (e : Ending) (w' : World) : Prop := ∃ l a ln c, e = .returned (.slice a ln c) /\ IsClas (mask w' M) l a ln c /\ GLOk attrs p l /\ 1 <= l.length /\ l.length <= n + 1 /\ DeckAt w0 w' bd /\ Chg [bd] w w'
theorem gclauses_calls {attrs : List Attr} (hat : attrs ∈ schemas) (hok : ∀ a ∈ attrs, OkAttr a) (hne : attrs ≠ []) (hl : attrs.length <= 1000) {w0 w : World} {bd : Nat} (hd : DeckAt w0 w bd) (sa : OA) (sn sc : Nat) (M : ZN) (hs : IsSchema (mask w [bd]) attrs (.agg #[.slice sa sn sc])) (hM : ∀ y ∈ M, y < w.heap.size) (n : Nat) (hn : n <= 50) (p : BA) (hp : p.size <= 100) :
  Calls Tryz.prog 39 #[.pointer (some ⟨bd, 0, none⟩), .agg #[.slice sa sn sc], .int .i64 (n : Nat), .string p] w (GenQ attrs p n w0 bd M w) := by
 have hbw := hd.lt
 obtain ⟨wr, hwr⟩ : ∃ wr, wr = w.alloc (.cells #[.slice sa sn sc] 24) := ⟨_, rfl⟩
 obtain ⟨bs, hbs⟩ : ∃ bs, bs = w.heap.size := ⟨_, rfl⟩
 have hxa : Ext w wr := by rw [hwr]; exact (Ext.refl w).alloc _
 have HXA := hI hxa
 have HBX := hI (show wr.heap[bs]? = some (.cells #[.slice sa sn sc] 24 (0, 0)) by rw [hwr, hbs]; exact alloc_new w _)
 have HDK := hI (hd.ext hxa)
 have HS := hI hs
 have HM := hI hM
 have HBB := hI (show bd < bs /\ bs = w.heap.size /\ wr.heap.size = w.heap.size + 1 from ⟨by omega, hbs, by rw [hwr]; simp⟩)
 have HOKK := hI hok
 have HDS := hI (show w0.heap.size <= w.heap.size by obtain ⟨_, _, _, _, _, _, _, _, hxw, _⟩ := hd; exact hxw.size)
 have HPS := hI (show p.size <= 1000 by omega)
 go_enter Tryz.func39, Tryz.ntmps39
 go_upto_region 2 with fail
 rw [<- hwr, <- hbs]
 clear hwr hbs hxa hd hs hM hok hbw
 obtain ⟨lw, hlw⟩ : ∃ lw, lw = w.heap.size + 1 := ⟨_, rfl⟩
 have HLW := hI (show lw <= wr.heap.size by have := HBB.out; omega)
 obtain ⟨names, hnames⟩ : ∃ names : ZB, names = [] := ⟨_, rfl⟩
 obtain ⟨kd, hkd⟩ : ∃ kd : Int, kd = 2 := ⟨_, rfl⟩
 obtain ⟨nm, hnm⟩ : ∃ nm, nm = lettersB p 0 := ⟨_, rfl⟩
 obtain ⟨N, hN⟩ : ∃ N, N = bd :: M := ⟨_, rfl⟩
 have HNN := hI (show bd ∈ N by rw [hN]; simp)
 have HCL := hI (show ∀ W, DeckAt w0 W bd -> Chg [bd] wr W -> Calls Tryz.prog 19 #[.pointer (some ⟨bd, 0, none⟩), .agg #[.slice sa sn sc], .int .i64 2, .string (lettersB p 0), .slice none 0 0] W (ClaQ attrs names kd nm w0 bd N W) from fun W hd hW => by
  rw [hnames, hkd, hnm]
  exact gclause_calls hat [] HOKK.out hne hl (by simp) (by simp) hd sa sn sc none 0 0 N (HS.out.mono (mask_step ((HXA.out.chg [bd]).then hW) (by simp))) (isStrs_nil _) (fun y hy => by
   rw [hN] at hy
   have h1 := hW.size; have h2 := HBB.out
   rcases List.mem_cons.1 hy with rfl | h
   ·omega
   have := HM.out y h; omega) 2 _)
 have HNE := hI (show N = bd :: M /\ names = [] /\ kd = 2 /\ nm = lettersB p 0 /\ lw = w.heap.size + 1 from ⟨hN, hnames, hkd, hnm, hlw⟩)
 clear hN hnames hkd hnm hlw
 refine wp_region_grow (m := 7) [6] (GnG w0 wr bd) (GnE bd) (GrP (gl2R attrs names p bd lw N sa sn sc kd nm)) (by kernel_rfl) (by kernel_rfl) ⟨HDK.out.ext ((Ext.refl wr).drew), ((Ext.refl wr).drew).chg _⟩ ?_ ?_ ?_
 ·intro i k v W W' hi hk hne hout h hE
  have hE : Chg [bd] W W' := hE
  have hi' := ltc7 hi
  clear hi hk hne hout
  rcases hi' with rfl | rfl | rfl | rfl | rfl | rfl | rfl
  ·exact h
  ·exact h
  ·exact h
  ·exact h
  ·obtain ⟨c, cv, e0, h⟩ := h
   exact ⟨c, cv, e0, ⟨h.1.mono (mask_step hE HNN.out), h.2⟩⟩
  ·obtain ⟨c, cv, g, e0, h⟩ := h
   exact ⟨c, cv, g, e0, ⟨hE.blk h.1 (by simpa using h.2.2.1), h.2.1, h.2.2.1, h.2.2.2.1.mono (mask_step hE HNN.out), h.2.2.2.2⟩⟩
  obtain ⟨c, cv, g, e0, h⟩ := h
  exact ⟨c, cv, g, e0, ⟨hE.blk h.1 (by simpa using h.2.2.1), h.2.1, h.2.2.1, h.2.2.2.1.mono (mask_step hE HNN.out), h.2.2.2.2⟩⟩
 ·intro q op hq ho vs W hW hd ρ hρ
  have hq' := ltc7 hq
  clear hq
  have o0 : ρ (.tmp 0) = .pointer (some ⟨bd, 0, none⟩) := hρ.out 0 rfl
  have o5 : ρ (.tmp 5) = .pointer (some ⟨bs, 0, none⟩) := hρ.out 5 rfl
  have o3 : ρ (.tmp 3) = .string p := hρ.out 3 rfl
  have i2 := hρ.i 2 18
  have i0 := hρ.i 0 16
  have i1 := hρ.i 1 17
  have i3 := hρ.i 3 19
  have i4 := hρ.i 4 20
  have i5 := hρ.i 5 21
  have hc := hρ.const
  have hfn := hρ.func
  clear hρ
  have HW := hI (show DeckAt w0 W bd /\ Chg [bd] wr W from hW)
  rcases hq' with rfl | rfl | rfl | rfl | rfl | rfl | rfl
  ·cases ho
   clear hd
   unfold GivesOp
   go_simp
   exact ⟨Chg.refl _ _, rfl⟩
  ·cases ho
   clear hd
   obtain ⟨g7, gf7⟩ := blk1 (HW.out.2.blk HBX.out (by have := HBB.out; simp; omega))
   unfold GivesOp
   go_simp
   exact ⟨Chg.refl _ _, rfl⟩
  ·cases ho
   clear hd
   unfold GivesOp
   go_simp
   exact ⟨Chg.refl _ _, rfl⟩
  ·cases ho
   have h2 : vs 2 = _ := hd ⟨2, .data⟩ (by simp) rfl
   rw [h2] at i2
   clear hd
   unfold GivesOp
   go_simp
   refine (letters_calls p 0 (by omega) HPS.out W).mono ?_
   rintro e5 w5 ⟨rfl, hx5⟩
   exact ⟨_, rfl, hx5.chg _, ⟨HW.out.1.ext hx5, HW.out.2.then (hx5.chg _)⟩, rfl⟩
  ·cases ho
   have h0 : vs 0 = _ := hd ⟨0, .data⟩ (by simp) rfl
   rw [h0] at i0
   have h1 : vs 1 = _ := hd ⟨1, .data⟩ (by simp) rfl
   rw [h1] at i1
   have h3 : vs 3 = _ := hd ⟨3, .data⟩ (by simp) rfl
   rw [h3] at i3
   clear hd
   unfold GivesOp
   go_simp
   refine (HCL.out W HW.out.1 HW.out.2).mono ?_
   rintro e5 w5 ⟨c, cv, rfl, k1, k2, k3, k4, k5, k6, hi5, hd5, hc5⟩
   exact ⟨_, rfl, hc5, ⟨hd5, HW.out.2.then hc5⟩, c, cv, rfl, hi5, k1, k2, k3, k4, k5, k6⟩
  ·cases ho
   obtain ⟨c, cv, h4, hs4⟩ : ∃ (c : Cla) (cv : ClV), vs 4 = .agg #[.int .i64 cv.kind, .string cv.name, .int .i64 cv.x.op, .string cv.x.name, .slice cv.x.aw cv.x.nw cv.x.cw, .int .i64 cv.x.lo, .int .i64 cv.x.hi, .slice cv.x.aa cv.x.na cv.x.ca, .slice cv.au cv.nu cv.cu, .int .i64 cv.amount] /\ (IsCla (mask W N) c cv /\ ClaG attrs names kd nm c) := hd ⟨4, .data⟩ (by simp) rfl
   have HS4 := hI hs4
   clear hs4
   rw [h4] at i4
   clear hd
   unfold GivesOp
   go_simp
   exact ⟨((Ext.refl W).alloc _).chg _, ⟨HW.out.1.ext ((Ext.refl W).alloc _), HW.out.2.then (((Ext.refl W).alloc _).chg _)⟩, c, cv, W.heap.size, rfl, alloc_new W _, by have := HW.out.2.size; have := HLW.out; omega, by have := HW.out.1.lt; omega, HS4.out.1.mono (mask_step (((Ext.refl W).alloc _).chg [bd]) HNN.out), HS4.out.2⟩
  cases ho
  obtain ⟨c, cv, g, h5, hs5⟩ : ∃ (c : Cla) (cv : ClV) (g : Nat), vs 5 = .slice (some ⟨g, 0, none⟩) 1 1 /\ (W.heap[g]? = some (.cells cv.cells.toArray 48 (0, 0)) /\ lw <= g /\ g ≠ bd /\ IsCla (mask W N) c cv /\ ClaG attrs names kd nm c) := hd ⟨5, .data⟩ (by simp) rfl
  have HS5 := hI hs5
  clear hs5
  rw [h5] at i5
  clear hd
  unfold GivesOp
  go_simp
  exact ⟨Chg.refl _ _, _, _, _, rfl, HS5.out⟩
 intro vs W hW hR
 rw [if_pos (by decide +kernel)]
 obtain ⟨c, cv, g, h6, hs6⟩ : ∃ (c : Cla) (cv : ClV) (g : Nat), vs 6 = .slice (some ⟨g, 0, none⟩) 1 1 /\ (W.heap[g]? = some (.cells cv.cells.toArray 48 (0, 0)) /\ lw <= g /\ g ≠ bd /\ IsCla (mask W N) c cv /\ ClaG attrs names kd nm c) := hR 6 (by simp) (by omega)
 have HS6 := hI hs6
 clear hs6
 simp only [acts, dstAt, List.range, List.range.loop, List.foldl_cons, List.foldl_nil, h6]
 go_simp
 have hW2 : DeckAt w0 W bd /\ Chg [bd] wr W := hW
 clear hR hW h6
 have HW2 := hI hW2
 obtain ⟨hgb, hgl, hgd, hgi, hgc⟩ := HS6.out
 have HGB := hI hgb
 have HGI := hI hgi
 have HGC := hI hgc
 have HGL := hI (And.intro hgl hgd)
 have HW3 := hI (show Chg [bd] w W from (HXA.out.chg [bd]).then hW2.2)
 have HBX2 := hI (hW2.2.blk HBX.out (by have := HBB.out; simp; omega))
 clear hgb hgl hgd hgi hgc hW2 HS6
 go_wp2_with fail
 refine (next_calls HW2.out.1 3 (by omega) (by omega)).mono ?_
 rintro e w5 ⟨z, rfl, hz0, hz1, hd5, hc5⟩
 have hgb5 := hc5.blk HGB.out (by have := HGL.out; simp; omega)
 have HG5 := hI hgb5
 have HD5 := hI hd5
 have HC5 := hI (HW3.out.then hc5)
 have HI5 := hI (HGI.out.mono (mask_step hc5 HNN.out))
 have HX5 := hI (hc5.blk HBX2.out (by have := HBB.out; simp; omega))
 obtain ⟨c0, c1, c2, c3, c4, c5, c6, c7, c8, c9, cf⟩ := blk10r hgb5
 have HC0 := hI (show FirstOk attrs p c from by
  obtain ⟨_, e2, e3, e4, _⟩ := HNE.out
  obtain ⟨k1, k2, k3, k4, k5, k6⟩ := HGC.out
  rw [e2] at k3
  refine ⟨by rw [k1, e3], by rw [k2, e4], Or.inl k3, ?_, ?_⟩
  ·rcases k4 with h | h
   ·have := h.1; omega
   exact h
  rw [e3] at k5
  rcases k5 with ⟨_, h⟩ | ⟨h, _⟩
  ·exact h
  simp [mostOf] at h)
 clear hd5 hc5 hgb5 HGB HGI HW2 HW3 HBX2 HCL HDK HBX
 go_upto_if 24 with fail
 go_cut [] (CutL w0 w attrs p bd bs lw g N sa sn sc)
 case first =>
  by_cases hz : 0 < z
  ·have tz : decide (0 < z) = true := decide_eq_true hz
   go_wp2_with fail
   go_meet
   case rel =>
    have hcs : Chg [g] w5 ((((((w5.setCell ⟨g, 2, none⟩ (.int .i64 1)).setCell ⟨g, 3, none⟩ (.string ⟨#[]⟩)).setCell ⟨g, 4, none⟩ (.slice none 0 0)).setCell ⟨g, 5, none⟩ (.int .i64 0)).setCell ⟨g, 6, none⟩ (.int .i64 0)).setCell ⟨g, 7, none⟩ (.slice none 0 0)) := by
     repeat (with_reducible (refine Chg.setCell ?_ (Or.inl (by simp)) _))
     exact Chg.refl _ _
    obtain ⟨i1, i2, i3, i4, i5, i6, i7, i8⟩ := HI5.out
    obtain ⟨f1, f2, f3, f4, f5⟩ := HC0.out
    refine ⟨⟨c.kind, c.name, exT, c.unl, c.amount⟩, ⟨cv.kind, cv.name, ⟨1, ⟨#[]⟩, none, 0, 0, 0, 0, none, 0, 0⟩, cv.au, cv.nu, cv.cu, cv.amount⟩, ?_, ⟨i1, i2, isEx_plain _ 1 0 0 _, i4, i5, i6, ?_, i8⟩, ⟨f1, f2, Or.inr rfl, f4, f5⟩, ?_, ?_, ?_, ?_⟩
    ·have hh := heap_setCell_same _ g 7 _ _ (.slice none 0 0) (heap_setCell_same _ g 6 _ _ (.int .i64 0) (heap_setCell_same _ g 5 _ _ (.int .i64 0) (heap_setCell_same _ g 4 _ _ (.slice none 0 0) (heap_setCell_same _ g 3 _ _ (.string ⟨#[]⟩) (heap_setCell_same _ g 2 _ _ (.int .i64 1) HG5.out)))))
     rw [hh]
     simp [ClV.cells]
    ·rw [f4]; unfold WbsD; trivial
    ·obtain ⟨k1, k2, k3, k4, k5, k6⟩ := HGC.out.2.2.2.2.2
     exact ⟨by unfold exT; exact fits_plain (by show 0 <= _; omega), by unfold exT Ex.few fewAll; exact ⟨by simp, trivial⟩, by simp [exT, Ex.size, sizes], by unfold exT bareE; simp [bareL], k5, k6⟩
    ·exact HD5.out.chg hcs (by have := HGL.out; simp; omega) (fun y hy => by simp only [List.mem_singleton] at hy; have := HGL.out; have := HNE.out; have := HDS.out; omega)
    ·exact HC5.out.trans hcs (fun y hy => by simp only [List.mem_singleton] at hy; have := HGL.out; have := HNE.out; exact Or.inr (by omega))
    exact hcs.blk HX5.out (by have := HGL.out; have := HNE.out; have := HBB.out; simp; omega)
  have tz : decide (0 < z) = false := decide_eq_false hz
  go_wp2_with fail
  go_meet
  case rel => exact ⟨c, cv, HG5.out, HI5.out, HC0.out, HGC.out.2.2.2.2.2, HD5.out, HC5.out, HX5.out⟩
 case rest =>
  obtain ⟨wx, rfl⟩ : ∃ wx : World, wx = wc := ⟨_, rfl⟩
  obtain ⟨c', cv', hb6, hi6, hf6, hg6, hd6, hc6, hx6⟩ := hcut
  clear c0 c1 c2 c3 c4 c5 c6 c7 c8 c9 cf HG5 HD5 HC5 HI5 HX5 HC0 HGC
  have HGP := hI (show GLp w0 w attrs p bd bs lw n M sa sn sc (.slice none 0 0) (.slice (some ⟨g, 0, none⟩) 1 1) 1 [] [c'] [cv'] wx from
   {k1 := by omega, kn := by omega, lk := by simp, l1 := by simp, nk := by simp, nsz := by simp, nown := World.ownsRow_nil _ _ _ _
    lown := ⟨rfl, Or.inr ⟨g, 1, _, rfl, HGL.out.1, hb6, Nat.le_refl _, by unfold maxLen; omega, rfl, by simp [ClV.cells]⟩⟩
    cla := by
     refine ⟨rfl, fun i h1 h2 => ?_⟩
     obtain rfl : i = 0 := by simpa using h1
     have := hi6
     rw [HNE.out.1] at this
     exact this
    apart := by simp [Value.ownBlock]
    ok := ⟨fun y hy => by
     obtain rfl : y = c' := by simpa using hy
     exact ⟨hg6, by rw [hf6.2.1, lettersB_size]⟩, Or.inl ⟨c', rfl, hf6⟩⟩
    deck := hd6, chg := hc6, box := hx6 })
  have HLE := hI HNE.out.2.2.2.2
  clear hb6 hi6 hf6 hg6 hd6 hc6 hx6 HNE HNN HGL HXA HLW
  go_wp2_with fail
  go_loopw [9, 10, 11] (GLq w0 w attrs p bd bs lw n M sa sn sc) (fun _ _ k _ => n + 1 - (intOf k).toNat)
  case atStart => exact ⟨1, [], [c'], [cv'], rfl, HGP.out⟩
  case round =>
   obtain ⟨K, names, l, cvs, rfl, hgp⟩ := hrel
   clear HGP
   obtain ⟨an, cn, hnv⟩ := owns_formG hgp.nown
   subst hnv
   obtain ⟨lg, lc, rfl, -, -⟩ := hgp.lown.form hgp.l1
   have HGP := hI hgp
   have hK1 := hgp.k1
   have hKn := hgp.kn
   have hlk := hgp.lk
   have hl1 := hgp.l1
   have hdk := hgp.deck
   have HDK := hI hdk
   clear hgp hdk
   have HOUT := hI (show ∀ W, Ext wr W -> ∃ a c, Value.slice (some ⟨lg, 0, none⟩) l.length lc = .slice a l.length c /\ GenQ attrs p n w0 bd M w (.returned (.slice a l.length c)) W from fun W hx => by
    have h := HGP.out.extd hx
    obtain ⟨a', c', hv, hcl⟩ := clas_owns (M := M) h.lown (fun k hk hm => by have h1 := (h.lown.lt k hk).1; have := HM.out k hm; have := HLE.out; omega) (h.cla.mono (mask_less _ (fun y hy => by simp [hy])))
    exact ⟨a', c', hv, l, a', l.length, c', rfl, hcl, h.ok, h.l1, by have := h.lk; omega, h.deck, h.chg⟩)
   by_cases hkn : K <= n
   ·have tk : decide ((K : Int) <= (n : Int)) = true := decide_eq_true (by omega)
    go_wp2_with fail
    refine (left_calls HDK.out).mono ?_
    rintro r w2 ⟨lb, rfl, hx2⟩
    cases lb
    ·obtain ⟨a', c', hv, hq⟩ := HOUT.out w2 hx2
     have HV := hI hv
     have HQ := hI hq
     clear hv hq hx2
     go_wp2_with fail
     go_ret
     rw [HV.out]
     exact HQ.out
    have HG2 := hI (HGP.out.extd hx2)
    clear hx2 HGP HDK HOUT
    go_upto_region 8 with fail
    have HDK := hI HG2.out.deck
    have HBX := hI HG2.out.box
    have HLW := hI (show lw <= w2.heap.size by have := (HG2.out.lown.lt lg rfl); omega)
    have HKB := hI (show K <= 51 by omega)
    have HNL := hI (show names.length <= 51 by have := HG2.out.nk; omega)
    obtain ⟨N0, hN0⟩ : ∃ N0, N0 = rowOf (.slice an names.length cn) ++ M := ⟨_, rfl⟩
    obtain ⟨nm, hnm⟩ : ∃ nm, nm = lettersB p K := ⟨_, rfl⟩
    have HNM := hI hnm.symm
    have HNB := hI (show ∀ y ∈ bd :: N0, y < w2.heap.size by
     intro y hy
     rw [hN0] at hy
     have h4 := HBB.out; have h5 := HLW.out; have h6 := HLE.out
     simp only [List.mem_cons, List.mem_append] at hy
     rcases hy with rfl | h | h
     ·omega
     ·exact (HG2.out.nown.lt y (mem_rowOf.1 h)).2
     have := HM.out y h; omega)
    have HCL := hI (show ∀ kd W M', DeckAt w0 W bd -> Chg [bd] w2 W -> (∀ y ∈ M', y < W.heap.size) -> Calls Tryz.prog 19 #[.pointer (some ⟨bd, 0, none⟩), .agg #[.slice sa sn sc], .int .i64 kd, .string nm, .slice an names.length cn] W (ClaQ attrs names kd nm w0 bd M' W) from fun kd W M' hd hW hM' => by
     have hbd : bd < lw := by have := HBB.out; have := HLE.out; omega
     obtain ⟨a', c', hv, h1, h2⟩ := strs_of_owns HG2.out.nown [bd] (by simp; exact hbd)
     simp only [Value.slice.injEq] at hv
     obtain ⟨rfl, _, rfl⟩ := hv
     exact gclause_calls hat names HOKK.out hne hl (by have := HNL.out; omega) HG2.out.nsz hd sa sn sc _ _ _ M' (HS.out.mono (mask_step (HG2.out.chg.then hW) (by simp))) (h1.mono (mask_step hW (by simp))) hM' kd _)
    have HNE := hI hN0
    clear hN0 hnm
    refine wp_region_growLG (n := 0) (m := 10) [] (GnV w0 w2 attrs names bd (bd :: N0) nm) (GnE bd) (GrP (gl8R p bd sa sn sc K nm an names cn)) (by kernel_rfl) (by kernel_rfl) (Nat.le_of_ble_eq_true rfl) ?gd ⟨HDK.out.ext ((Ext.refl w2).drew), ((Ext.refl w2).drew).chg _, fun h => by simp at h, fun h => by simp at h, fun h => by simp at h⟩ ?_ ?_ ?_
    case gd =>
     intro i o j b hi ho hg
     rcases ltc10 hi with rfl | rfl | rfl | rfl | rfl | rfl | rfl | rfl | rfl | rfl <;> (cases ho; first | (cases hg; done) | (cases hg; intro v W h; exact h))
    ·intro i k v W W' hi hk hne hout h hE
     have hE : Chg [bd] W W' := hE
     have hi' := ltc10 hi
     clear hi hk hne hout
     rcases hi' with rfl | rfl | rfl | rfl | rfl | rfl | rfl | rfl | rfl | rfl
     ·exact h
     ·exact h
     ·exact h
     ·obtain ⟨kd, e0, h⟩ := h
      exact ⟨kd, e0, h⟩
     ·exact h
     ·exact h
     ·exact h
     ·exact h
     ·obtain ⟨e0, h⟩ := h
      exact ⟨e0, trivial⟩
     obtain ⟨e0, h⟩ := h
     exact ⟨e0, trivial⟩
    ·intro q op hq ho L vs W hqL hcL hW hd ρ hρ
     have hq' := ltc10 hq
     clear hq
     have o0 : ρ (.tmp 0) = .pointer (some ⟨bd, 0, none⟩) := hρ.out 0 rfl
     have o5 : ρ (.tmp 5) = .pointer (some ⟨bs, 0, none⟩) := hρ.out 5 rfl
     have i2 := hρ.i 2 40
     have o3 : ρ (.tmp 3) = .string p := hρ.out 3 rfl
     have o11 : ρ (.tmp 11) = .int .i64 ((K : Nat) : Int) := hρ.out 11 rfl
     have i4 := hρ.i 4 42
     have i5 := hρ.i 5 43
     have o9 : ρ (.tmp 9) = .slice an names.length cn := hρ.out 9 rfl
     have i0 := hρ.i 0 38
     have i1 := hρ.i 1 39
     have i3 := hρ.i 3 41
     have i6 := hρ.i 6 44
     have i7 := hρ.i 7 45
     have hc := hρ.const
     have hfn := hρ.func
     clear hρ
     have HG := hI hW
     have HW := hI (show DeckAt w0 W bd /\ Chg [bd] w2 W from ⟨hW.1, hW.2.1⟩)
     have HQL := hI hqL
     clear hW hqL hcL
     rcases hq' with rfl | rfl | rfl | rfl | rfl | rfl | rfl | rfl | rfl | rfl
     ·cases ho
      clear hd
      unfold GivesOp
      go_simp
      exact ⟨Chg.refl _ _, gnv_step (by decide) (by decide) HG.out HW.out.1 (Chg.refl _ _), rfl⟩
     ·cases ho
      clear hd
      obtain ⟨g7, gf7⟩ := blk1 (HW.out.2.blk HBX.out (by have := HBB.out; simp; omega))
      unfold GivesOp
      go_simp
      exact ⟨Chg.refl _ _, gnv_step (by decide) (by decide) HG.out HW.out.1 (Chg.refl _ _), rfl⟩
     ·cases ho
      clear hd
      unfold GivesOp
      go_simp
      exact ⟨Chg.refl _ _, gnv_step (by decide) (by decide) HG.out HW.out.1 (Chg.refl _ _), rfl⟩
     ·cases ho
      have h2 : vs 2 = _ := hd ⟨2, .data⟩ (by simp) rfl
      rw [h2] at i2
      clear hd
      unfold GivesOp
      go_simp
      refine (range_calls HW.out.1 1 10 (by omega) (by omega) (by omega)).mono ?_
      rintro e5 w5 ⟨z, rfl, hz0, hz1, hd5, hc5⟩
      exact ⟨_, rfl, hc5, gnv_step (by decide) (by decide) HG.out hd5 hc5, z, rfl, by omega, by omega⟩
     ·cases ho
      clear hd
      unfold GivesOp
      go_simp
      exact ⟨Chg.refl _ _, gnv_step (by decide) (by decide) HG.out HW.out.1 (Chg.refl _ _), rfl⟩
     ·cases ho
      clear hd
      unfold GivesOp
      go_simp
      exact ⟨Chg.refl _ _, gnv_step (by decide) (by decide) HG.out HW.out.1 (Chg.refl _ _), rfl⟩
     ·cases ho
      have h4 : vs 4 = _ := hd ⟨4, .data⟩ (by simp) rfl
      rw [h4] at i4
      have h5 : vs 5 = _ := hd ⟨5, .data⟩ (by simp) rfl
      rw [h5] at i5
      clear hd
      unfold GivesOp
      go_simp
      refine (letters_calls p K (by have := HKB.out; omega) HPS.out W).mono ?_
      rintro e5 w5 ⟨rfl, hx5⟩
      rw [HNM.out]
      exact ⟨_, rfl, hx5.chg _, gnv_step (by decide) (by decide) HG.out (HW.out.1.ext hx5) (hx5.chg _), rfl⟩
     ·cases ho
      clear hd
      unfold GivesOp
      go_simp
      exact ⟨Chg.refl _ _, gnv_step (by decide) (by decide) HG.out HW.out.1 (Chg.refl _ _), rfl⟩
     ·cases ho
      have h0 : vs 0 = _ := hd ⟨0, .data⟩ (by simp) rfl
      rw [h0] at i0
      have h1 : vs 1 = _ := hd ⟨1, .data⟩ (by simp) rfl
      rw [h1] at i1
      obtain ⟨kd, h3, hs3⟩ : ∃ (kd : Int), vs 3 = .int .i64 kd /\ (1 <= kd /\ kd <= 10) := hd ⟨3, .data⟩ (by simp) rfl
      have HS3 := hI hs3
      clear hs3
      rw [h3] at i3
      have h6 : vs 6 = _ := hd ⟨6, .data⟩ (by simp) rfl
      rw [h6] at i6
      have h7 : vs 7 = _ := hd ⟨7, .data⟩ (by simp) rfl
      rw [h7] at i7
      clear hd
      unfold GivesOp
      go_simp
      obtain ⟨Z, hz1, hz2, hz3⟩ := gnv_pick HG.out
      refine (HCL.out kd W ((bd :: N0) ++ Z) HW.out.1 HW.out.2 (fun y hy => by
       rcases List.mem_append.1 hy with h | h
       ·exact Nat.lt_of_lt_of_le (HNB.out y h) HW.out.2.size
       exact hz1 y h)).mono ?_
      rintro e5 w5 ⟨c, cv, rfl, k1, k2, k3, k4, k5, k6, hi5, hd5, hc5⟩
      exact ⟨_, rfl, hc5, gnv_8 HG.out hd5 hc5 hi5 ⟨rfl, k2, k3, by rw [k1]; exact k4, by rw [k1]; exact k5, k6⟩ hz2 hz3, rfl, trivial⟩
     cases ho
     clear hd
     unfold GivesOp
     go_simp
     exact ⟨((Ext.refl W).alloc _).chg _, gnv_9 HG.out HQL.out, rfl, trivial⟩
    intro L vs W hLm hW hR
    rw [if_neg (by decide +kernel)]
    obtain ⟨c, cv, g, h8, h9, q1, q2, q3, q4⟩ := hW.2.2.2.2 (hLm 8 (by omega)) (hLm 9 (by omega))
    have HS8 := hI (And.intro q1 q2)
    have HS9 := hI (And.intro q3 q4)
    clear q1 q2 q3 q4
    unfold clV at h8
    refine wpOp_lastG rfl ?_
    change wpList _ _ _ [⟨none, .store _ (.tmp 12) (.tmp 46), _, _, _, none⟩] _ _
    simp only [acts, dstAt, List.range, List.range.loop, List.foldl_cons, List.foldl_nil, h8, h9]
    go_simp
    have hW2 : DeckAt w0 W bd /\ Chg [bd] w2 W := ⟨hW.1, hW.2.1⟩
    clear hR hW hLm h8 h9
    have HW2 := hI hW2
    obtain ⟨bc, hbc⟩ : ∃ bc, bc = g := ⟨_, rfl⟩
    rw [<- hbc] at HS8 HS9 ⊢
    clear hbc hW2
    have hbl := blk_lt HS9.out.1
    have hz0 := HS9.out.1
    unfold zeroClO at hz0
    obtain ⟨c0, c1, c2, c3, c4, c5, c6, c7, c8, c9, cf⟩ := blk10r hz0
    clear hz0
    go_upto_region 9 with fail
    have hP := put10_chg W bc cv
    have hPb := put10_blk HS9.out.1 cv
    obtain ⟨w4, hw4⟩ : ∃ w4, w4 = put10 W bc cv := ⟨_, rfl⟩
    rw [<- hw4] at hP hPb
    have hw5 := hw4
    unfold put10 at hw5
    rw [<- hw5]
    have HP := hI hP
    have HPB := hI hPb
    have HBD0 := hI (show bc ≠ bd from fun e => by
     have h1 := HS9.out.1
     rw [e] at h1
     obtain ⟨la, ln, lc', k, hb, _⟩ := HW2.out.1
     rw [h1] at hb; cases hb)
    have HBN := hI (show lw <= bc /\ bc ≠ bd /\ w2.heap.size <= bc from by have h1 := HS9.out.2; have h3 := HLW.out; exact ⟨by omega, HBD0.out, by omega⟩)
    have HBD := hI (show bd < lw by have := HBB.out; have := HLE.out; omega)
    clear hw4 hw5 c0 c1 c2 c3 c4 c5 c6 c7 c8 c9 cf
    obtain ⟨c0, c1, c2, c3, c4, c5, c6, c7, c8, c9, cf⟩ := blk10r (show w4.heap[bc]? = some (.cells #[.int .i64 cv.kind, .string cv.name, .int .i64 cv.x.op, .string cv.x.name, .slice cv.x.aw cv.x.nw cv.x.cw, .int .i64 cv.x.lo, .int .i64 cv.x.hi, .slice cv.x.aa cv.x.na cv.x.ca, .slice cv.au cv.nu cv.cu, .int .i64 cv.amount] 48 (0, 0)) from hPb)
    clear hP hPb
    have HCB := hI (show Chg [bd, bc] w2 w4 from (HW2.out.2.weak (by simp)).then (HP.out.weak (by simp)))
    have HSZ4 := hI (show w2.heap.size <= W.heap.size /\ W.heap.size <= w4.heap.size from ⟨HW2.out.2.size, HP.out.size⟩)
    have HOL := hI (owns_chg HG2.out.lown HCB.out (fun q hq hm => by
     have h1 := HG2.out.lown.lt q hq; have := HBD.out; have := HBN.out
     simp only [List.mem_cons, List.not_mem_nil, or_false] at hm
     omega))
    have HON := hI (owns_chg HG2.out.nown HCB.out (fun q hq hm => by
     have h1 := HG2.out.nown.lt q hq; have := HBD.out; have := HBN.out
     simp only [List.mem_cons, List.not_mem_nil, or_false] at hm
     omega))
    have HFL := hI (show (cvs.flatMap ClV.cells).length = l.length * 10 from HOL.out.1)
    have HF1 := hI (show ∀ u ∈ cvs.flatMap ClV.cells, u.oneCell' = true by
     intro u hu
     obtain ⟨v, _, hv⟩ := List.mem_flatMap.1 hu
     simp only [ClV.cells, List.mem_cons, List.not_mem_nil, or_false] at hv
     rcases hv with rfl | rfl | rfl | rfl | rfl | rfl | rfl | rfl | rfl | rfl <;> rfl)
    have HL0 := hI (show 0 < l.length by omega)
    have HLB := hI (show l.length + 1 <= 60 by omega)
    obtain ⟨B, hB⟩ : ∃ B, B = w4.heap.size := ⟨_, rfl⟩
    have HBL := hI (show B <= w4.heap.size by omega)
    have HBW := hI (show w4.heap.size <= B by omega)
    clear hB
    obtain ⟨w3, rfl⟩ : ∃ w3 : World, w3 = W := ⟨_, rfl⟩
    refine wp_region_grow (m := 7) [6] (GrG w4) (GnA 2 5) (GrP (gl9R B lg lc l cvs cv)) (by kernel_rfl) (by kernel_rfl) ((Ext.refl w4).drew) ?_ ?_ ?_
    ·intro i k v W W' hi hk hne hout h hE
     have hi' := ltc7 hi
     clear hi hk
     by_cases hk : k = 2
     ·subst hk
      obtain ⟨x, hE, hx0⟩ := hE.2.1 rfl
      rcases hi' with rfl | rfl | rfl | rfl | rfl | rfl | rfl
      ·exact absurd hout (by decide +kernel)
      ·exact h
      ·exact absurd rfl hne
      ·exact h
      ·obtain ⟨y, e0, h⟩ := h
       exact ⟨y, e0, hE.blk h (by simp only [List.mem_singleton]; intro e; subst e; rw [h] at hx0; cases hx0)⟩
      ·exact absurd hout (by decide +kernel)
      exact absurd hout (by decide +kernel)
     by_cases hk : k = 5
     ·subst hk
      rcases hi' with rfl | rfl | rfl | rfl | rfl | rfl | rfl
      ·exact absurd hout (by decide +kernel)
      ·exact h
      ·exact absurd hout (by decide +kernel)
      ·exact h
      ·exact absurd hout (by decide +kernel)
      ·exact absurd rfl hne
      exact absurd hout (by decide +kernel)
     have hE : Ext W W' := (hE.1 ‹_› ‹_›)
     rcases hi' with rfl | rfl | rfl | rfl | rfl | rfl | rfl
     ·obtain ⟨g, e0, h⟩ := h
      exact ⟨g, e0, ⟨h.1, hE.blk h.2⟩⟩
     ·exact h
     ·obtain ⟨g, cp, e0, h⟩ := h
      exact ⟨g, cp, e0, owns_extG h hE⟩
     ·exact h
     ·obtain ⟨y, e0, h⟩ := h
      exact ⟨y, e0, hE.blk h⟩
     ·obtain ⟨g, cp, e0, h⟩ := h
      exact ⟨g, cp, e0, owns_extG h hE⟩
     obtain ⟨g, cp, e0, h⟩ := h
     exact ⟨g, cp, e0, owns_extG h hE⟩
    ·intro q op hq ho vs W hW hd ρ hρ
     have hq' := ltc7 hq
     clear hq
     have o10 : ρ (.tmp 10) = .slice (some ⟨lg, 0, none⟩) l.length lc := hρ.out 10 rfl
     have i0 := hρ.i 0 47
     have i1 := hρ.i 1 48
     have o12 : ρ (.tmp 12) = .pointer (some ⟨bc, 0, none⟩) := hρ.out 12 rfl
     have i3 := hρ.i 3 50
     have i2 := hρ.i 2 49
     have i4 := hρ.i 4 51
     have i5 := hρ.i 5 52
     have hc := hρ.const
     have hfn := hρ.func
     clear hρ
     have HW := hI (show Ext w4 W from hW)
     rcases hq' with rfl | rfl | rfl | rfl | rfl | rfl | rfl
     ·cases ho
      clear hd
      unfold GivesOp
      go_simp
      exact ⟨gna ((Ext.refl W).alloc _) (by decide) (by decide), HW.out.alloc _, W.heap.size, rfl, by have := HW.out.size; have := HBL.out; omega, alloc_new W _⟩
     ·cases ho
      clear hd
      unfold GivesOp
      go_simp
      exact ⟨gna (Ext.refl _) (by decide) (by decide), rfl⟩
     ·cases ho
      obtain ⟨g, h0, hs0⟩ : ∃ (g : Nat), vs 0 = .slice (some ⟨g, 0, none⟩) 0 0 /\ (B <= g /\ W.heap[g]? = some (.cells #[] 48 (0, 0))) := hd ⟨0, .data⟩ (by simp) rfl
      have HS0 := hI hs0
      clear hs0
      rw [h0] at i0
      have h1 : vs 1 = _ := hd ⟨1, .data⟩ (by simp) rfl
      rw [h1] at i1
      clear hd
      refine gives_append elemCla _ _ B _ 0 [] i0 lg l.length lc (cvs.flatMap ClV.cells) i1 HFL.out HF1.out HL0.out (by have := HLB.out; omega) (by omega) ⟨rfl, Or.inr ⟨g, 0, #[], rfl, HS0.out.1, HS0.out.2, Nat.le_refl _, by unfold maxLen; omega, rfl, rfl⟩⟩ (fun j hj => by rw [(owns_extG HOL.out HW.out).cellAt j (by rw [<- HFL.out]; exact hj)]; exact List.getElem?_eq_getElem hj) (by have := HW.out.size; have := HBL.out; omega) ?_
      intro g6 cap6 w6 ho6 hg6 hl6 hlt6
      simp only [Nat.zero_add, List.nil_append] at ho6 ⊢
      exact ⟨⟨fun h => absurd rfl h, fun _ => ⟨g, (grown_chg hg6).weak (fun y hy => by simpa [rowOf, Value.ownBlock] using hy), HS0.out.2⟩, fun h => absurd h (by decide)⟩, Ext.grown HW.out hg6 (fun k hk => by have hk2 : g = k := (by simpa [Value.ownBlock] using hk); have := HS0.out.1; have := HBW.out; omega), g6, cap6, rfl, ho6⟩
     ·cases ho
      clear hd
      have g0 := HW.out.cell c0
      have g1 := HW.out.cell c1
      have g2 := HW.out.cell c2
      have g3 := HW.out.cell c3
      have g4 := HW.out.cell c4
      have g5 := HW.out.cell c5
      have g6 := HW.out.cell c6
      have g7 := HW.out.cell c7
      have g8 := HW.out.cell c8
      have g9 := HW.out.cell c9
      unfold GivesOp
      go_simp
      exact ⟨gna (Ext.refl _) (by decide) (by decide), rfl⟩
     ·cases ho
      have h3 : vs 3 = _ := hd ⟨3, .data⟩ (by simp) rfl
      rw [h3] at i3
      clear hd
      unfold GivesOp
      go_simp
      exact ⟨gna ((Ext.refl W).alloc _) (by decide) (by decide), HW.out.alloc _, W.heap.size, rfl, alloc_new W _⟩
     ·cases ho
      obtain ⟨g, cp, h2, hs2⟩ : ∃ (g : Nat) (cp : Nat), vs 2 = .slice (some ⟨g, 0, none⟩) l.length cp /\ (W.ownsRow B 48 10 (.slice (some ⟨g, 0, none⟩) l.length cp) l.length (cvs.flatMap ClV.cells)) := hd ⟨2, .data⟩ (by simp) rfl
      have HS2 := hI hs2
      clear hs2
      rw [h2] at i2
      obtain ⟨y, h4, hs4⟩ : ∃ (y : Nat), vs 4 = .slice (some ⟨y, 0, none⟩) 1 1 /\ (W.heap[y]? = some (.cells cv.cells.toArray 48 (0, 0))) := hd ⟨4, .data⟩ (by simp) rfl
      have HS4 := hI hs4
      clear hs4
      rw [h4] at i4
      clear hd
      refine gives_append elemCla _ _ B _ l.length (cvs.flatMap ClV.cells) i2 y 1 1 cv.cells i4 rfl (by simp [ClV.cells, Value.oneCell']) (by omega) (by have := HLB.out; omega) (by omega) HS2.out (fun j hj => by rw [blk_cell HS4.out]; simp) (by have := HW.out.size; have := HBL.out; omega) ?_
      intro g7 cap7 w7 ho7 hg7 hl7 hlt7
      exact ⟨⟨fun _ h => absurd rfl h, fun h => absurd h (by decide), fun _ => trivial⟩, Ext.grown HW.out hg7 (fun k hk => by have hk2 : g = k := (by simpa [Value.ownBlock] using hk); have := (HS2.out.lt g rfl).1; have := HBW.out; omega), g7, cap7, rfl, ho7⟩
     cases ho
     obtain ⟨g, cp, h5, hs5⟩ : ∃ (g : Nat) (cp : Nat), vs 5 = .slice (some ⟨g, 0, none⟩) (l.length + 1) cp /\ (W.ownsRow B 48 10 (.slice (some ⟨g, 0, none⟩) (l.length + 1) cp) (l.length + 1) (cvs.flatMap ClV.cells ++ cv.cells)) := hd ⟨5, .data⟩ (by simp) rfl
     have HS5 := hI hs5
     clear hs5
     rw [h5] at i5
     clear hd
     unfold GivesOp
     go_simp
     exact ⟨gna (Ext.refl _) (by decide) (by decide), _, _, rfl, HS5.out⟩
    intro vs W hW hR
    rw [if_pos (by decide +kernel)]
    obtain ⟨g, cp, h6, hs6⟩ : ∃ (g : Nat) (cp : Nat), vs 6 = .slice (some ⟨g, 0, none⟩) (l.length + 1) cp /\ (W.ownsRow B 48 10 (.slice (some ⟨g, 0, none⟩) (l.length + 1) cp) (l.length + 1) (cvs.flatMap ClV.cells ++ cv.cells)) := hR 6 (by simp) (by omega)
    have HS6 := hI hs6
    clear hs6
    simp only [acts, dstAt, List.range, List.range.loop, List.foldl_cons, List.foldl_nil, h6]
    go_simp
    have hW2 : Ext w4 W := hW
    clear hR hW h6
    have HXW := hI hW2
    have HOM := hI (owns_lowG HS6.out (show lw <= B by have := HBW.out; have := HSZ4.out; have := HLW.out; omega))
    have HKI := hI HS8.out.2
    have HC4 := hI (show Chg [bd] w w4 from (HG2.out.chg.trans HCB.out (fun y hy => by
     simp only [List.mem_cons, List.not_mem_nil, or_false] at hy
     rcases hy with rfl | rfl
     ·exact Or.inl (by simp)
     have := HBN.out; have := HLE.out; exact Or.inr (by omega))))
    have HD4 := hI (show DeckAt w0 w4 bd from HW2.out.1.chg HP.out (by have := HBN.out; simp; omega) (fun y hy => by simp only [List.mem_singleton] at hy; have := HBN.out; have := HLE.out; have := HDS.out; omega))
    have HNW := hI (show Sub (mask w2 (bd :: N0)) (mask W (bd :: N0)) from (mask_grow HCB.out (fun y hy => by
     simp only [List.mem_cons, List.not_mem_nil, or_false] at hy
     rcases hy with rfl | rfl
     ·exact Or.inl (by simp)
     exact Or.inr HBN.out.2.2)).trans (mask_step (hW2.chg [bd]) (by simp)))
    have HCI := hI (show IsCla (mask W (bd :: N0)) c cv from ((HS8.out.1.mono (mask_grow HP.out (fun y hy => by simp only [List.mem_singleton] at hy; exact Or.inl (by simp [hy])))).mono (mask_less _ (fun y hy => List.mem_append_left _ hy))).mono (mask_step (hW2.chg [bd]) (by simp)))
    have HGW := hI (show GLp w0 w attrs p bd bs lw n M sa sn sc (.slice an names.length cn) (.slice (some ⟨lg, 0, none⟩) l.length lc) K names l cvs W from
     {HG2.out with
       nown := owns_extG HON.out hW2, lown := owns_extG HOL.out hW2
       cla := by
        have := HG2.out.cla.mono (show Sub (mask w2 (bd :: rowOf (.slice an names.length cn) ++ M)) (mask W (bd :: rowOf (.slice an names.length cn) ++ M)) by have := HNW.out; rw [HNE.out] at this; exact this)
        exact this
       deck := HD4.out.ext hW2, chg := HC4.out.then (hW2.chg _)
       box := hW2.blk (HCB.out.blk HG2.out.box (by
        have := HBB.out; have := HBN.out; have := HLE.out
        simp only [List.mem_cons, List.not_mem_nil, or_false, not_or]; omega)) })
    have HMC := hI (show ClasR (mask W (bd :: N0)) (l ++ [c]) (cvs ++ [cv]) from by
     have h1 := HGW.out.cla
     have h2 := HNE.out
     rw [List.cons_append, <- h2] at h1
     exact h1.snoc HCI.out)
    have HBW2 := hI (hW2.blk HPB.out)
    have hcn := HCI.out.2.1
    have hnsz : c.name.size = p.size + 2 := by rw [HKI.out.2.1, <- HNM.out, lettersB_size]
    have HCN := hI (And.intro hcn hnsz)
    have hWs := hW2.size
    have HGR := hI (show B <= g /\ g < W.heap.size from by
     have := HS6.out.lt g rfl
     exact ⟨this.1, this.2⟩)
    clear hW2 hcn hnsz c0 c1 c2 c3 c4 c5 c6 c7 c8 c9 cf HS6 HS8 HCI HNW HW2 HOL HON HFL HF1 HCB HP HPB
    have HCLS := hI (show IsClas W (l ++ [c]) (some ⟨g, 0, none⟩) (l.length + 1) cp from by
     have ho := HOM.out
     obtain ⟨a', c', hv, hcl⟩ := clas_owns (M := []) (l := l ++ [c]) (vs := cvs ++ [cv]) (by simpa using ho) (by simp) (HMC.out.mono ((mask_sub _ _).trans (fun p' v' h => by rw [mask_cell, if_neg (by simp)]; exact h)))
     simp only [Value.slice.injEq, List.length_append, List.length_singleton] at hv
     obtain ⟨rfl, _, rfl⟩ := hv
     have := hcl.mono (mask_sub _ _)
     simpa using this)
    have HOKS := hI (show ∀ x ∈ l ++ [c], x.okk from fun x hx => by
     have key : ∀ y : Cla, CGood y -> y.name.size <= 1000 -> y.okk := fun y hy h => by
      obtain ⟨g1, g2, g3, g4, g5, g6⟩ := hy
      exact ⟨⟨by omega, g1, g2, by omega, g5, by omega⟩, by omega⟩
     rcases List.mem_append.1 hx with h | h
     ·have := HGW.out.ok.1 x h
      exact key x this.1 (by omega)
     obtain rfl : x = c := by simpa using h
     exact key x HKI.out.2.2.2.2.2 (by have := HCN.out.2; omega))
    obtain ⟨b0, bf⟩ := blk1 HGW.out.box
    have HRC := hI (rClauses_calls attrs (l ++ [c]) _ _ (l.length + 1) cp W ((HS.out.mono (mask_step HGW.out.chg (by simp))).mono (mask_sub _ _)) (attrs_fits hat) (by omega) HCLS.out (by omega) fun x hx => (HOKS.out x hx).fit)
    obtain ⟨E, hE⟩ : ∃ E, E = clausesErr attrs (l ++ [c]) := ⟨_, rfl⟩
    rw [<- hE] at HRC
    have HEE := hI hE
    clear hE
    obtain ⟨E1, E2⟩ := E
    unfold clsV at HRC
    simp only at HRC
    go_wp2_with fail
    refine HRC.out.mono ?_
    rintro r w6 ⟨rfl, hx6⟩
    have HG6 := hI (HGW.out.extd hx6)
    obtain ⟨d0, d1, d2, d3, d4, d5, d6, d7, d8, d9, df⟩ := blk10r (show w6.heap[bc]? = some (.cells #[.int .i64 cv.kind, .string cv.name, .int .i64 cv.x.op, .string cv.x.name, .slice cv.x.aw cv.x.nw cv.x.cw, .int .i64 cv.x.lo, .int .i64 cv.x.hi, .slice cv.x.aa cv.x.na cv.x.ca, .slice cv.au cv.nu cv.cu, .int .i64 cv.amount] 48 (0, 0)) from hx6.blk HBW2.out)
    have HX6 := hI hx6
    clear hx6 HRC b0 bf
    by_cases hz : E2 = 0
    case neg =>
     have tz : (E2 != 0) = true := by simp [hz]
     clear hz
     go_wp2_with fail
     go_roundw
     case rel => exact ⟨K + 1, names, l, cvs, by go_num, { HG6.out with k1 := by omega, kn := by omega, lk := by omega, nk := Nat.le_succ_of_le HG6.out.nk }⟩
     case measure => simp [intOf]; omega
    subst hz
    have HZ := hI (clausesErr_zero (s := attrs) (l := l ++ [c]) (by rw [<- HEE.out]))
    have HOK6 := hI (show GLOk attrs p (l ++ [c]) from ⟨fun x hx => by
     rcases List.mem_append.1 hx with h | h
     ·exact HG6.out.ok.1 x h
     obtain rfl : x = c := by simpa using h
     exact ⟨HKI.out.2.2.2.2.2, HCN.out.2⟩, Or.inr HZ.out⟩)
    have HO6 := hI (owns_extG HOM.out HX6.out)
    have HM6 := hI (HMC.out.mono (mask_step (HX6.out.chg [bd]) (by simp)))
    have h6s := HX6.out.size
    have hap : ∀ q, (Value.slice (some ⟨g, 0, none⟩) (l.length + 1) cp).ownBlock = some q -> (Value.slice an names.length cn).ownBlock ≠ some q := fun q hq hq2 => by
     have h1 := (HG2.out.nown.lt q hq2).2
     have h2 : g = q := by simpa [Value.ownBlock] using hq
     have := HGR.out; have := HBW.out; have := HSZ4.out
     omega
    have HAP := hI hap
    clear hap
    have TZ : ((0 : Int) != 0) = false := rfl
    cases hkd : (cv.kind == 1)
    ·go_wp2_with fail
     go_roundw
     case rel => exact ⟨K + 1, names, l ++ [c], cvs ++ [cv], by go_num, { HG6.out with k1 := by omega, kn := by omega, lk := by simp; omega, l1 := by simp, nk := Nat.le_succ_of_le HG6.out.nk, lown := (by have := HO6.out; simpa using this), cla := (by have := HM6.out; rw [HNE.out] at this; exact this), apart := HAP.out, ok := HOK6.out }⟩
     case measure => simp [intOf]; omega
    have HN6 := hI HG6.out.nown
    have hnk := HG6.out.nk
    go_wp2_with (at_builtin; refine wpList_append_at elemStr rfl _ _ rfl lw _ names.length _ rfl HN6.out _ 1 1 rfl ?f0 rfl ?f1 ?f2 ?f3 ?f4 ?_)
    case f0 => simp
    case f1 => simp [Value.oneCell']
    case f2 => unfold maxLen; omega
    case f3 => omega
    case f4 => have := HLW.out; have := HSZ4.out; omega
    intro v8 w8 hown8 hc8 hw8
    obtain ⟨a8, c8, hv8⟩ := owns_formG hown8
    subst hv8
    have hrow : ∀ y ∈ rowOf (.slice an names.length cn), lw <= y := fun y hy => (HN6.out.lt y (mem_rowOf.1 hy)).1
    have hlw := HLE.out
    have hbs := HBB.out
    have HG8 := hI (show GLp w0 w attrs p bd bs lw n M sa sn sc (.slice a8 (names.length + 1) c8) (.slice (some ⟨g, 0, none⟩) (l.length + 1) cp) (K + 1) (names ++ [cv.name]) (l ++ [c]) (cvs ++ [cv]) w8 from
     {k1 := by omega, kn := by omega, lk := by simp; omega, l1 := by simp, nk := by simp; omega
      nsz := fun x hx => by
       rcases List.mem_append.1 hx with h | h
       ·exact HG6.out.nsz x h
       obtain rfl : x = cv.name := by simpa using h
       rw [HCN.out.1]; have := HCN.out.2; omega
      nown := by simpa [strCells] using hown8
      lown := by
       have := owns_chg HO6.out hc8 (fun q hq hm => HAP.out q hq (mem_rowOf.1 hm))
       simpa using this
      cla := by
       have h1 := HM6.out
       rw [HNE.out] at h1
       exact h1.mono (keep_rows hc8 hw8)
      apart := fun q hq hq2 => by
       rcases hw8 q hq2 with h | h
       ·exact HAP.out q hq h
       have h2 : g = q := by simpa [Value.ownBlock] using hq
       have := HGR.out; omega
      ok := HOK6.out
      deck := HG6.out.deck.chg hc8 (fun hm => by have := hrow bd hm; omega) (fun y hy => by have := hrow y hy; have := HDS.out; omega)
      chg := HG6.out.chg.trans hc8 (fun y hy => by have := hrow y hy; exact Or.inr (by omega))
      box := hc8.blk HG6.out.box (fun hm => by have := hrow bs hm; omega) })
    clear hown8 hc8 hw8 hrow hlw hbs d0 d1 d2 d3 d4 d5 d6 d7 d8 d9 df
    go_wp2_with fail
    go_roundw
    case rel => exact ⟨K + 1, names ++ [cv.name], l ++ [c], cvs ++ [cv], by go_num, HG8.out⟩
    case measure => simp [intOf]; omega
   have tk : decide ((K : Int) <= (n : Int)) = false := decide_eq_false (by omega)
   obtain ⟨a', c', hv, hq⟩ := HOUT.out wr (Ext.refl _)
   have HV := hI hv
   have HQ := hI hq
   clear hv hq
   go_wp2_with fail
   go_ret
   rw [HV.out]
   exact HQ.out
theorem schemas_good : (schemas.all fun s => schemaErr s == 0) = true := by decide +kernel
def attrB (s : List Attr) (a : Attr) : Bool := match attrAt s a.name with
 | some i => (s.getD i attr0).kind == a.kind && decide ((s.getD i attr0).words = a.words) && (s.getD i attr0).lo == a.lo && (s.getD i attr0).hi == a.hi
 | none => false
theorem schemas_first : (schemas.all fun s => s.all fun a => attrB s a) = true := by decide +kernel
theorem schema_good {attrs : List Attr} (hs : attrs ∈ schemas) : schemaErr attrs = 0 := by
 have := List.all_eq_true.1 schemas_good attrs hs
 simpa using this
theorem schema_attr {attrs : List Attr} (hs : attrs ∈ schemas) {a : Attr} (ha : a ∈ attrs) : ∃ i, attrAt attrs a.name = some i /\ (attrs.getD i attr0).kind = a.kind /\ (attrs.getD i attr0).words = a.words /\ (attrs.getD i attr0).lo = a.lo /\ (attrs.getD i attr0).hi = a.hi := by
 have := List.all_eq_true.1 (List.all_eq_true.1 schemas_first attrs hs) a ha
 unfold attrB at this
 cases h : attrAt attrs a.name with
 | none => rw [h] at this; cases this
 | some i =>
  rw [h] at this
  simp only [Bool.and_eq_true, beq_iff_eq, decide_eq_true_eq] at this
  exact ⟨i, rfl, this.1.1.1, this.1.1.2, this.1.2, this.2⟩
theorem schemas_caa : (schemas.all fun s => (attrAt s (lettersB ⟨#[99, 45]⟩ 0)).isNone) = true := by decide +kernel
theorem made_names {attrs : List Attr} {ns ns' : ZB} (h : ∀ x ∈ ns, x ∈ ns') : (d : Nat) -> (e : Ex) -> MadeE attrs ns d e -> MadeE attrs ns' d e
 | 0, _, h0 => h0.elim
 | d + 1, e, h0 => by
  rcases h0 with h0 | ⟨h1, h2, h3, h4, h5, h6⟩
  ·refine Or.inl ⟨h0.1, ?_⟩
   rcases h0.2 with q | q | ⟨q1, q2, q3⟩ | q | q
   ·exact Or.inl q
   ·exact Or.inr (Or.inl q)
   ·exact Or.inr (Or.inr (Or.inl ⟨q1, q2.imp (h _) id, q3⟩))
   ·exact Or.inr (Or.inr (Or.inr (Or.inl q)))
   exact Or.inr (Or.inr (Or.inr (Or.inr q)))
  exact Or.inr ⟨h1, h2, h3, h4, h5, fun x hx => made_names h d x (h6 x hx)⟩
theorem atom_node {attrs : List Attr} (hs : attrs ∈ schemas) {names : ZB} (hn : ∀ x ∈ names, nameB x = true) {e : Ex} (h : AtomOf attrs names e) : okNode e := by
 have hat : ∀ a ∈ attrs, okAttr2 a = true := fun a ha => List.all_eq_true.1 (List.all_eq_true.1 schemas_ok2 attrs hs) a ha
 obtain ⟨ha, h⟩ := h
 rcases h with ⟨h1, h2, h3, h4, h5⟩ | ⟨h1, h2, h3, h4, h5⟩ | ⟨h1, h2, h3, h4, h5⟩ | ⟨h1, ⟨a, haa, hk, hnm, hne, hnd, hin⟩, h4, h5⟩ | ⟨h1, ⟨a, haa, hk, hnm, hl1, hl2, hl3⟩, h3⟩
 ·exact Or.inl ⟨h1, h2, h3, h4, h5, ha⟩
 ·exact Or.inr (Or.inl ⟨h1, h2, h3, h4, h5, ha⟩)
 ·have hn : nameB e.name = true := by
   rcases h2 with h2 | ⟨a, haa, _, h2⟩
   ·exact hn _ h2
   have := hat a haa
   simp only [okAttr2, Bool.and_eq_true, decide_eq_true_eq] at this
   rw [h2]; exact this.1.1.1
  exact Or.inr (Or.inr (Or.inl ⟨h1, hn, h3, h4, h5, ha⟩))
 ·have hq := hat a haa
  simp only [okAttr2, hk, Bool.and_eq_true, decide_eq_true_eq, bne_self_eq_false, Bool.false_or, List.all_eq_true] at hq
  obtain ⟨⟨⟨hq1, hq2⟩, hq3, hq4⟩, _⟩ := hq
  have hlen : e.words.length <= 4 := Nat.le_trans (List.Nodup.length_le_of_subset hnd (fun x hx => hin x hx)) hq3
  have hl0 : e.words.length ≠ 0 := fun h => hne (List.eq_nil_of_length_eq_zero h)
  refine Or.inr (Or.inr (Or.inr (Or.inl ⟨h1, by rw [hnm]; exact hq1, ?_, h4, h5, ha⟩)))
  simp only [wordsB, Bool.and_eq_true, bne_iff_ne, decide_eq_true_eq, List.all_eq_true]
  exact ⟨⟨⟨by simpa using hl0, by omega⟩, fun x hx => (hq4 x (hin x hx)).1⟩, hnd⟩
 have hq := hat a haa
 simp only [okAttr2, hk, Bool.and_eq_true, decide_eq_true_eq, bne_self_eq_false, Bool.false_or] at hq
 obtain ⟨⟨⟨hq1, hq2⟩, _⟩, hq3, hq4⟩ := hq
 have hlo : numberB e.lo = true := by simp [numberB]; omega
 have hhi : numberB e.hi = true := by simp [numberB]; omega
 exact Or.inr (Or.inr (Or.inr (Or.inr (Or.inl ⟨h1, by rw [hnm]; exact hq1, h3, hlo, hhi, hl2, ha⟩))))
theorem depths_of {k : Nat} : (l : List Ex) -> (∀ x ∈ l, x.depth <= k) -> depths l <= k
 | [], _ => by simp [depths]
 | e :: r, h => by
  have h1 := h e (by simp)
  have h2 := depths_of r fun x hx => h x (by simp [hx])
  simp only [depths]; omega
theorem made_tree {attrs : List Attr} (hs : attrs ∈ schemas) {names : ZB} (hn : ∀ x ∈ names, nameB x = true) : (d : Nat) -> (e : Ex) -> MadeE attrs names d e -> okTree e /\ e.depth <= d
 | 0, _, h => h.elim
 | d + 1, e, h => by
  rcases h with h | ⟨hl, h1, h2, h3, h4, h⟩
  ·refine ⟨okTree_mk (atom_node hs hn h) fun x hx => (by rw [h.1] at hx; cases hx), ?_⟩
   rw [Ex.depth_eq, h.1]; simp [depths]
  have ih := fun x hx => made_tree hs hn d x (h x hx)
  refine ⟨okTree_mk ?_ fun x hx => (ih x hx).1, ?_⟩
  ·rcases hl with ⟨h5, h6⟩ | ⟨h5, h6, _⟩
   ·exact Or.inr (Or.inr (Or.inr (Or.inr (Or.inr (Or.inl ⟨h5, h1, h2, h3, h4, h6⟩)))))
   exact Or.inr (Or.inr (Or.inr (Or.inr (Or.inr (Or.inr ⟨h5, h1, h2, h3, h4, h6⟩)))))
  rw [Ex.depth_eq]
  have := depths_of _ fun x hx => (ih x hx).2
  omega
theorem refExprB_ok {e : Ex} (h1 : okTree e) (h2 : e.depth <= 16) (h3 : e.size <= 300) : refExprB e = true := by
 rw [refExprB, Bool.and_eq_true, Bool.and_eq_true, nodes_ok]
 have e1 : refSize e <= 300 := by unfold refSize; omega
 exact ⟨⟨by simpa using h2, by simpa using e1⟩, h1⟩
theorem made_ref {attrs : List Attr} (hs : attrs ∈ schemas) {names : ZB} (hn : ∀ x ∈ names, nameB x = true) {d : Nat} {e : Ex} (h : MadeE attrs names d e) (hd : d <= 5) : refExprB e = true := by
 have h1 := made_tree hs hn d e h
 have h2 := made_okay hs (fun x hx => by have := nameB_size (hn x hx); omega) d e h
 have hb : bndS d <= 121 := by
  have : d = 0 \/ d = 1 \/ d = 2 \/ d = 3 \/ d = 4 \/ d = 5 := by omega
  rcases this with rfl | rfl | rfl | rfl | rfl | rfl <;> decide
 exact refExprB_ok h1.1 (by omega) (by have := h2.size; omega)
theorem made_nodes {attrs : List Attr} (hs : attrs ∈ schemas) {l : List Cla} {names : ZB} (hn : ∀ x ∈ names, attrAt attrs x = none /\ (defAt l x).isSome = true) : (d : Nat) -> (e : Ex) -> MadeE attrs names d e -> nodesErr attrs l e = 0
 | 0, _, h => h.elim
 | d + 1, e, h => by
  rw [nodesErr_eq]
  rcases h with h | ⟨hl, h1, h2, h3, h4, h⟩
  ·obtain ⟨ha, h⟩ := h
   have h0 : nodeErr attrs l e.op e.name e.words e.lo e.hi = 0 := by
    rcases h with ⟨h1, h2, h3, h4, h5⟩ | ⟨h1, h2, h3, h4, h5⟩ | ⟨h1, h2, h3, h4, h5⟩ | ⟨h1, ⟨a, haa, hk, hnm, hne, hnd, hin⟩, h4, h5⟩ | ⟨h1, ⟨a, haa, hk, hnm, hl1, hl2, hl3⟩, h3⟩
    ·rw [h1]; simp [nodeErr]
    ·rw [h1]; simp [nodeErr]
    ·rw [h1]
     rcases h2 with h2 | ⟨a, haa, hk, h2⟩
     ·obtain ⟨g1, g2⟩ := hn _ h2
      simp [nodeErr, g1, g2]
     obtain ⟨i, g1, g2, g3, g4, g5⟩ := schema_attr hs haa
     rw [h2]
     simp only [nodeErr, g1, g2, hk, if_true]
     simp
    ·obtain ⟨i, g1, g2, g3, g4, g5⟩ := schema_attr hs haa
     rw [h1, hnm]
     have hall : (e.words.all fun x => (a.words).any fun y => decide (y = x)) = true := by
      rw [List.all_eq_true]
      intro x hx
      rw [List.any_eq_true]
      exact ⟨x, hin x hx, by simp⟩
     simp only [nodeErr, g1, g2, g3, hk, hall]
     simp
    obtain ⟨i, g1, g2, g3, g4, g5⟩ := schema_attr hs haa
    rw [h1, hnm]
    simp only [nodeErr, g1, g2, g4, g5, hk]
    simp
    omega
   rw [h0, ha, nodesErrL]; simp
  have h0 : nodeErr attrs l e.op e.name e.words e.lo e.hi = 0 := by
   unfold nodeErr
   rw [if_neg (by omega), if_neg (by omega), if_neg (by omega)]
  rw [h0, nodesErrL_zero e.args fun j hj => made_nodes hs hn d _ (h _ (List.getElem_mem hj))]
  simp
mutual
theorem expE_none : (e : Ex) -> expE (fun _ => none) e <= e.size
 | .mk op name _ _ _ args => by
  have := expL_none args
  rw [expE, Ex.size]
  have h1 : (if op = 3 then ((none : Option Nat)).getD 1 else 1) = 1 := by split <;> rfl
  rw [h1]; omega
theorem expL_none : (l : List Ex) -> expL (fun _ => none) l <= sizes l
 | [] => by rw [expL, sizes]; omega
 | e :: r => by
  have h1 := expE_none e
  have h2 := expL_none r
  rw [expL, sizes]; omega
end
theorem sorts_none {d : Dfn} (h : d.is = false) : Sorts [d] := by
 have hi : ∀ i, isDef [d] i = false := by
  intro i
  cases i with
  | zero => exact h
  | succ i => rfl
 exact ⟨[], by simp, fun i => by simp [hi i], fun p i hp => by simp at hp⟩
theorem exT_ref : refExprB exT = true := by decide +kernel
theorem caa_name : nameB (lettersB ⟨#[99, 45]⟩ 0) = true := by decide +kernel
theorem first_good {attrs : List Attr} (hs : attrs ∈ schemas) {c : Cla} (h : FirstOk attrs ⟨#[99, 45]⟩ c) : clausesErr attrs [c] = (0, 0) := by
 obtain ⟨hk, hn, he, hu, ha⟩ := h
 have hd : ∀ s, defAt [c] s = none := by
  intro s
  simp [defAt, hk]
 have hr : refExprB c.cond = true := by
  rcases he with he | he
  ·exact made_ref hs (fun x hx => by cases hx) he (by omega)
  rw [he]; exact exT_ref
 have hsz : c.cond.size <= 300 := by
  have := hr
  rw [refExprB, Bool.and_eq_true, Bool.and_eq_true] at this
  have h2 := this.1.2
  simp only [decide_eq_true_eq] at h2
  unfold refSize at h2; omega
 have hz : nodesErr attrs [c] c.cond = 0 := by
  rcases he with he | he
  ·exact made_nodes hs (fun x hx => by cases hx) 3 _ he
  rw [he]; simp [exT, nodesErr, nodeErr, nodesErrL]
 have hg : [c].getD 0 cla0 = c := rfl
 have hb : clauseB c = true := by
  unfold clauseB
  rw [hk, hn, hr, hu, ha, caa_name]
  decide
 have hc : claErr attrs [c] 0 = 0 := by
  unfold claErr
  rw [hg, hb]
  have hf : findAt [c] c.name = some 0 := by simp [findAt]
  have hat : attrAt attrs c.name = none := by
   have := List.all_eq_true.1 schemas_caa attrs hs
   rw [hn]; simpa using this
  rw [hf, hat, hz, hu]
  simp [backsErr]
 have hx : expanded [c] c.cond <= 300 := by
  unfold expanded
  show expF [c] 2 c.cond <= 300
  rw [expF]
  have : (fun s => (defAt [c] s).map fun d => expF [c] 1 ([c].getD d cla0).cond) = fun _ => none := by
   funext s; rw [hd s]; rfl
  rw [this]
  have := expE_none c.cond
  omega
 refine cls_good (schema_good hs) (by simp) (fun j hj => ?_) ?_ fun j hj => ?_
 ·obtain rfl : j = 0 := by simpa using hj
  exact hc
 ·have : [c].map Cla.dfn = [c.dfn] := rfl
  rw [this]
  exact sorts_none (by simp [Cla.dfn, hk])
 obtain rfl : j = 0 := by simpa using hj
 unfold claLarge
 rw [hg, hu, if_neg]
 rintro (h | h)
 ·omega
 simp [backsLarge] at h
theorem glok_good {attrs : List Attr} (hs : attrs ∈ schemas) {l : List Cla} (h : GLOk attrs ⟨#[99, 45]⟩ l) : clausesErr attrs l = (0, 0) := by
 rcases h.2 with ⟨c, rfl, hc⟩ | h
 ·exact first_good hs hc
 exact h
noncomputable def evalErr (s : List Attr) (l : List Cla) (e : Ex) (f : ZI) : Int :=
 if (clausesErr s l).2 ≠ 0 then (clausesErr s l).2 else if exprErr s l e ≠ 0 then exprErr s l e else if 2000 < expanded l e then 4 else if factsB s f = false then 16 else 0
structure Ok11 (s : List Attr) (l : List Cla) (e : Ex) (f : ZI) : Prop where
 cls : (clausesErr s l).2 = 0
 ref : refExprB e = true
 node : nodesErr s l e = 0
 exp : expanded l e <= 2000
 facts : factsAll s f = true
theorem Ok11.chk {s : List Attr} {l : List Cla} {e : Ex} {f : ZI} (h : Ok11 s l e f) : Chk s l := chk_of h.cls
theorem evalErr_ok {s : List Attr} {l : List Cla} {e : Ex} {f : ZI} (h : evalErr s l e f = 0) : Ok11 s l e f := by
 unfold evalErr at h
 by_cases h1 : (clausesErr s l).2 ≠ 0
 ·rw [if_pos h1] at h; exact absurd h h1
 rw [if_neg h1] at h
 by_cases h2 : exprErr s l e ≠ 0
 ·rw [if_pos h2] at h; exact absurd h h2
 rw [if_neg h2] at h
 by_cases h3 : 2000 < expanded l e
 ·rw [if_pos h3] at h; cases h
 rw [if_neg h3] at h
 by_cases h4 : factsB s f = false
 ·rw [if_pos h4] at h; cases h
 have h1 : (clausesErr s l).2 = 0 := by simpa using h1
 have hs := (chk_of h1).sch
 have h2 : exprErr s l e = 0 := by simpa using h2
 unfold exprErr at h2
 rw [if_neg (by simpa using hs)] at h2
 unfold exprnErr at h2
 by_cases h5 : refExprB e = false
 ·rw [if_pos h5] at h2; cases h2
 rw [if_neg h5] at h2
 have h4 : factsB s f = true := by simpa using h4
 simp only [factsB, Bool.and_eq_true] at h4
 exact ⟨h1, by simpa using h5, h2, by omega, h4.2⟩
theorem Ok11.tree {s : List Attr} {l : List Cla} {e : Ex} {f : ZI} (h : Ok11 s l e f) : okTree e := by
 have := h.ref
 rw [refExprB, Bool.and_eq_true, Bool.and_eq_true] at this
 exact (nodes_ok _).1 this.2
theorem Ok11.size {s : List Attr} {l : List Cla} {e : Ex} {f : ZI} (h : Ok11 s l e f) : e.size <= 300 := by
 have := h.ref
 rw [refExprB, Bool.and_eq_true, Bool.and_eq_true] at this
 have := this.1.2
 simp only [decide_eq_true_eq] at this
 unfold refSize at this
 omega
end Go.Proofs.YtefjomofjejklaaGreatDoor
