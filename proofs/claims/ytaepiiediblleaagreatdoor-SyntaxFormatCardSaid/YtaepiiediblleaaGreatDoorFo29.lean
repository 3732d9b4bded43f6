/-
  Texts of the claim, joined: Spoilt2.
-/
import Derived.Test.YtaepiiediblleaaGreatDoorFo28
import Derived.Deep.DeepCutAuto
namespace Go.Proofs.YtaepiiediblleaaGreatDoor
open Go.RowKit

/-- An expression is handed back; of what was there only the deck has changed, and what is not of M stays so. -/
def SpoiltQ (e x : Ex) (w0 : World) (bd : Nat) (M : List Nat) (w : World) (r : Ending) (w' : World) : Prop :=
  ∃ (e' : Ex) (v' : ExV), r = .returned v'.val ∧ e'.fits ∧ e'.few ∧ e'.size ≤ e.size + x.size + 1 ∧ IsEx (mask w' (bd :: M)) e' v'.val ∧ DeckAt w0 w' bd ∧ Chg [bd] w w'
def SpoiltDo (m : Nat) : Prop := ∀ (e x : Ex) (ev xv : ExV) (w0 w : World) (bd : Nat) (M : List Nat), e.size ≤ m → okTree e → DeckAt w0 w bd → IsEx (mask w (bd :: M)) e ev.val → IsEx (mask w (bd :: M)) x xv.val → x.fits → x.few → (∀ y ∈ M, y < w.heap.size) →
  Calls Tryz.prog 16 #[ev.val, .pointer (some ⟨bd, 0, none⟩), xv.val] w (SpoiltQ e x w0 bd M w)

theorem mask_in_sub {w W : World} {bd : Nat} {M : List Nat} (h : Chg [bd] w W) : Sub (mask w (bd :: M)) W := (sub_old h).trans (mask_sub _ _)
theorem list7 {r : Int} (h0 : 0 ≤ r) (h7 : r < 7) : r = 0 ∨ r = 1 ∨ r = 2 ∨ r = 3 ∨ r = 4 ∨ r = 5 ∨ r = 6 := by omega
/-- The result: the expression e' is in the box B. -/
theorem spoilt_end {e x e' : Ex} {v' : ExV} {w0 w W : World} {bd : Nat} {M : List Nat} {B : Nat} (hf : e'.fits) (hw : e'.few) (hs : e'.size ≤ e.size + x.size + 1) (hx : IsEx (mask W (bd :: (B :: M))) e' v'.val) (hd : DeckAt w0 W bd) (hc : Chg [bd] w W) (hB : w.heap.size ≤ B) (hbd : bd < w.heap.size) :
    SpoiltQ e x w0 bd M w (.returned v'.val) (put6 W B v') := by
  have hp := put6_chg W B v' (N := [B]) (by simp)
  have h0 : w0.heap.size ≤ bd := by obtain ⟨_, _, _, _, _, _, _, _, _, h⟩ := hd; exact h
  refine ⟨e', v', rfl, hf, hw, hs, hx.mono (mask_sub_mask fun k hk hn => by
    simp only [List.mem_cons, not_or] at hn ⊢
    exact ⟨⟨hn.1, hn.2.2⟩, hp.block k hk (by simpa using hn.2.1)⟩), hd.chg hp (by simp; omega) (by simp; omega), hc.trans hp (by intro y hy; simp at hy; subst hy; exact Or.inr hB)⟩
theorem ExsD.take {w : World} : (l : List Ex) → (a : Option Addr) → (k : Nat) → ExsD w l a → ExsD w (l.take k) a
  | [], _, _, _ => by simp [ExsD]
  | e :: r, a, 0, _ => by simp [ExsD]
  | .mk op name words lo hi args :: r, a, k + 1, h => by
    unfold ExsD at h
    obtain ⟨b, off, rfl, h1, h2⟩ := h
    rw [List.take_succ_cons]
    unfold ExsD
    exact ⟨b, off, rfl, h1, ExsD.take r _ k h2⟩
theorem sizes_take_le' (l : List Ex) (k : Nat) : sizes (l.take k) ≤ sizes l := sizes_take_le l k

def trueV : ExV := ⟨1, ⟨#[]⟩, none, 0, 0, 0, 0, none, 0, 0⟩
def trueE : Ex := .mk 1 ⟨#[]⟩ [] 0 0 []
theorem isEx_true (w : World) : IsEx w trueE trueV.val := IsEx.mk ⟨rfl, Nat.le_refl 0, Or.inl ⟨rfl, rfl⟩, fun i hi => by simp at hi⟩ rfl (Nat.le_refl 0) (Or.inl ⟨rfl, rfl⟩) (by unfold ExsD; trivial)
theorem true_fits : trueE.fits ∧ trueE.few := ⟨fits_mk (by simp [trueE, Ex.name, ByteArray.size]) (by simp [trueE, Ex.words]) (by simp [trueE, Ex.args]), few_mk (by simp [trueE, Ex.words]) (by simp [trueE, Ex.args])⟩
theorem sizes_snoc (a : Ex) : (l : List Ex) → sizes (l ++ [a]) = sizes l + a.size
  | [] => by simp [sizes]
  | b :: r => by simp [sizes, sizes_snoc a r]; omega
theorem cell_allocs (w : World) (l : List Value) (t : TypeId) : ∀ j (hj : j < l.length), (w.alloc (.cells l.toArray t)).cell? ⟨w.heap.size, 0 + j, none⟩ = some l[j] := by
  intro j hj
  rw [World.cell?_alloc_at _ _ _ _ rfl]
  simp [hj]
theorem cells_one (xs : List ExV) : ∀ u ∈ xs.flatMap ExV.cells, u.oneCell' = true := by
  intro u hu
  obtain ⟨x, _, hx⟩ := List.mem_flatMap.1 hu
  simp only [ExV.cells, List.mem_cons, List.not_mem_nil, or_false] at hx
  rcases hx with rfl | rfl | rfl | rfl | rfl | rfl <;> rfl
theorem cell_alloc0 (w : World) (v : Value) (t : TypeId) : ∀ j (hj : j < [v].length), (w.alloc (.cells #[v] t)).cell? ⟨w.heap.size, 0 + j, none⟩ = some [v][j] := by
  intro j hj
  obtain rfl : j = 0 := by simpa using hj
  rw [World.cell?_alloc_at _ _ _ _ rfl]
  rfl
theorem strCells_eq : (l : List ByteArray) → l.flatMap strCells = l.map Value.string
  | [] => rfl
  | a :: r => by simp [strCells_eq r, strCells]
/-- The words were changed. -/
theorem spoilt_words {e x : Ex} {w0 w w3 W : World} {bd be B : Nat} {M : List Nat} {words : List ByteArray} {aw : Option Addr} {nw cw : Nat} {aa : Option Addr} {na ca : Nat} (hf : e.fits) (hw : e.few) (hwf : ∀ y ∈ words, y.size ≤ 1000000000000000) (hwl : words.length ≤ 1000000000000000) (hst : IsStrs (mask W (bd :: (B :: M))) words aw nw cw) (hna : na = e.args.length) (hca : na ≤ ca) (ha : OkAddr aa ca) (hxs : ExsD (mask w (bd :: M)) e.args aa)
    (hd : DeckAt w0 w3 bd) (hc : Chg [bd] w w3) (hcW : Chg [be] w3 W) (hbe : w.heap.size ≤ be) (hB : w.heap.size ≤ B) (hbd : bd < w.heap.size) (h0 : w0.heap.size ≤ w.heap.size) :
    SpoiltQ e x w0 bd M w (.returned (ExV.val ⟨e.op, e.name, aw, nw, cw, e.lo, e.hi, aa, na, ca⟩)) (put6 W B ⟨e.op, e.name, aw, nw, cw, e.lo, e.hi, aa, na, ca⟩) := by
  have hcc : Chg [bd] w W := hc.trans hcW (by intro y hy; simp at hy; subst hy; exact Or.inr hbe)
  have hsub := sub_new (M := M) (N := [B]) hcc (by simp; omega)
  have f := fits_parts hf
  have g := few_parts hw
  refine spoilt_end (e' := .mk e.op e.name words e.lo e.hi e.args) ?_ ?_ ?_ (IsEx.mk hst hna hca ha (ExsD.mono hsub _ _ hxs)) (hd.chg hcW (by simp; omega) (by simp; omega)) hcc hB hbd
  · unfold Ex.fits; exact ⟨f.1, hwf, f.2.2⟩
  · unfold Ex.few; exact ⟨hwl, g.2⟩
  · have := e.size_eq
    simp only [Ex.size]
    omega
/-- The arguments were changed. -/
theorem spoilt_args {e x : Ex} {w0 w w3 W : World} {bd be B : Nat} {M : List Nat} {aw : Option Addr} {nw cw : Nat} {args : List Ex} {aa : Option Addr} {na ca : Nat} (hf : e.fits) (hw : e.few) (haf : ∀ y ∈ args, y.fits ∧ y.few) (hsz : sizes args ≤ sizes e.args + x.size + 1) (hst : IsStrs (mask w (bd :: M)) e.words aw nw cw) (hna : na = args.length) (hca : na ≤ ca) (ha : OkAddr aa ca) (hxs : ExsD (mask W (bd :: (B :: M))) args aa)
    (hd : DeckAt w0 w3 bd) (hc : Chg [bd] w w3) (hcW : Chg [be] w3 W) (hbe : w.heap.size ≤ be) (hB : w.heap.size ≤ B) (hbd : bd < w.heap.size) (h0 : w0.heap.size ≤ w.heap.size) :
    SpoiltQ e x w0 bd M w (.returned (ExV.val ⟨e.op, e.name, aw, nw, cw, e.lo, e.hi, aa, na, ca⟩)) (put6 W B ⟨e.op, e.name, aw, nw, cw, e.lo, e.hi, aa, na, ca⟩) := by
  have hcc : Chg [bd] w W := hc.trans hcW (by intro y hy; simp at hy; subst hy; exact Or.inr hbe)
  have hsub := sub_new (M := M) (N := [B]) hcc (by simp; omega)
  have f := fits_parts hf
  have g := few_parts hw
  refine spoilt_end (e' := .mk e.op e.name e.words e.lo e.hi args) (fits_mk f.1 f.2.1 (fun y hy => (haf y hy).1)) (few_mk g.1 (fun y hy => (haf y hy).2)) ?_ (IsEx.mk (hst.mono hsub) hna hca ha hxs) (hd.chg hcW (by simp; omega) (by simp; omega)) hcc hB hbd
  have := e.size_eq
  simp only [Ex.size]
  omega
theorem fitsAll_mem {l : List Ex} (h : fitsAll l) : ∀ y ∈ l, y.fits := fun y hy => by
  obtain ⟨i, hi, rfl⟩ := List.getElem_of_mem hy
  exact fitsAll_at l h i hi
theorem fewAll_mem {l : List Ex} (h : fewAll l) : ∀ y ∈ l, y.few := fun y hy => by
  obtain ⟨i, hi, rfl⟩ := List.getElem_of_mem hy
  exact fewAll_at l h i hi
theorem Chg.cell' {N : List Nat} {w w' : World} (h : Chg N w w') {p : Addr} (hn : p.block ∉ N) (hlt : p.block < w.heap.size) : w'.cell? p = w.cell? p := World.cell?_of_block (h.block _ hlt hn)
def put6at (w : World) (B o : Nat) (x : ExV) : World := (((((w.setCell ⟨B, o, none⟩ (.int .i64 x.op)).setCell ⟨B, o + 1, none⟩ (.string x.name)).setCell ⟨B, o + 2, none⟩ (.slice x.aw x.nw x.cw)).setCell ⟨B, o + 3, none⟩ (.int .i64 x.lo)).setCell ⟨B, o + 4, none⟩ (.int .i64 x.hi)).setCell ⟨B, o + 5, none⟩ (.slice x.aa x.na x.ca)
theorem put6at_chg (w : World) (B o : Nat) (x : ExV) {N : List Nat} (h : B ∈ N) : Chg N w (put6at w B o x) := by
  unfold put6at
  repeat (with_reducible (refine Chg.setCell ?_ ?_ _))
  exact Chg.refl _ _
  all_goals exact Or.inl h
theorem put6at_cell {w : World} {B o : Nat} {x : ExV} {c : Array Value} {t : TypeId} (h : w.heap[B]? = some (.cells c t (0, 0))) (hs : o + 6 ≤ c.size) (j : Nat) : (put6at w B o x).cell? ⟨B, j, none⟩ = if o ≤ j ∧ j < o + 6 then x.cells[j - o]? else c[j]? := by
  have hb : (put6at w B o x).heap[B]? = some (.cells ((((((c.setIfInBounds o (.int .i64 x.op)).setIfInBounds (o + 1) (.string x.name)).setIfInBounds (o + 2) (.slice x.aw x.nw x.cw)).setIfInBounds (o + 3) (.int .i64 x.lo)).setIfInBounds (o + 4) (.int .i64 x.hi)).setIfInBounds (o + 5) (.slice x.aa x.na x.ca)) t (0, 0)) := by
    unfold put6at
    rw [heap_setCell_same _ _ _ _ _ _ (heap_setCell_same _ _ _ _ _ _ (heap_setCell_same _ _ _ _ _ _ (heap_setCell_same _ _ _ _ _ _ (heap_setCell_same _ _ _ _ _ _ (heap_setCell_same _ _ _ _ _ _ h)))))]
  rw [blk_cell hb]
  simp only [Array.getElem?_setIfInBounds, Array.size_setIfInBounds]
  by_cases hj : o ≤ j ∧ j < o + 6
  · rw [if_pos hj]
    obtain ⟨i, rfl⟩ : ∃ i, j = o + i := ⟨j - o, by omega⟩
    rw [Nat.add_sub_cancel_left]
    have hi : i = 0 ∨ i = 1 ∨ i = 2 ∨ i = 3 ∨ i = 4 ∨ i = 5 := by omega
    rcases hi with rfl | rfl | rfl | rfl | rfl | rfl
    all_goals simp [ExV.cells]
    all_goals omega
  · rw [if_neg hj, if_neg (by omega), if_neg (by omega), if_neg (by omega), if_neg (by omega), if_neg (by omega), if_neg (by omega)]
def Rs4 (e : Ex) (x : Ex) (g n cap k bd : Nat) (xk xv : ExV) (M' : List Nat) : Nat → Value → World → Prop
  | 0, u, _ => u = .slice (some ⟨g, 0, none⟩) n cap
  | 1, u, _ => u = .int .i64 k
  | 2, u, _ => u = .slice (some ⟨g, 0, none⟩) n cap
  | 3, u, _ => u = .int .i64 k
  | 4, u, _ => u = .pointer (some ⟨g, k * 6, none⟩)
  | 5, u, _ => u = xk.val
  | 6, u, _ => u = .pointer (some ⟨bd, 0, none⟩)
  | 7, u, _ => u = xv.val
  | 8, u, W => ∃ (e' : Ex) (v' : ExV), u = v'.val ∧ e'.fits ∧ e'.few ∧ e'.size ≤ e.size + x.size + 1 ∧ IsEx (mask W (bd :: M')) e' v'.val
  | 9, u, _ => u = .pointer (some ⟨g, k * 6, none⟩)
  | _, _, _ => True
def Es4 (bd : Nat) (_ : Nat) (W W' : World) : Prop := Chg [bd] W W'
def Gs4 (w0 w3 : World) (bd : Nat) (W : World) : Prop := Chg [bd] w3 W ∧ DeckAt w0 W bd
theorem rs4_keeps {e x : Ex} {g n cap k bd : Nat} {xk xv : ExV} {M' : List Nat} {i : Nat} {u : Value} {W W' : World} (hi : i < 10) (h : Rs4 e x g n cap k bd xk xv M' i u W) (hE : Chg [bd] W W') : Rs4 e x g n cap k bd xk xv M' i u W' := by
  have hi' : i = 0 ∨ i = 1 ∨ i = 2 ∨ i = 3 ∨ i = 4 ∨ i = 5 ∨ i = 6 ∨ i = 7 ∨ i = 8 ∨ i = 9 := by omega
  rcases hi' with rfl | rfl | rfl | rfl | rfl | rfl | rfl | rfl | rfl | rfl
  case inr.inr.inr.inr.inr.inr.inr.inr.inl =>
    obtain ⟨e', v', h1, h2, h3, h4, h5⟩ := h
    exact ⟨e', v', h1, h2, h3, h4, h5.mono (sub_old hE)⟩
  all_goals exact h
theorem sizes_set : (l : List Ex) → (k : Nat) → (hk : k < l.length) → (y : Ex) → sizes (l.set k y) + l[k].size = sizes l + y.size
  | [], k, hk, _ => by simp at hk
  | a :: r, 0, _, y => by simp [sizes]; omega
  | a :: r, k + 1, hk, y => by
    have := sizes_set r k (by simpa using hk) y
    simp [sizes] at this ⊢; omega
/-- Plain fields of the node were changed, in its box be. -/
theorem spoilt_plain {e x : Ex} {w0 w w3 W : World} {bd be B : Nat} {M : List Nat} {aw : Option Addr} {nw cw : Nat} {aa : Option Addr} {na ca : Nat} {op lo hi : Int} {name : ByteArray} (hname : name.size ≤ 1000000000000000) (hf : e.fits) (hw : e.few) (hst : IsStrs (mask w (bd :: M)) e.words aw nw cw) (hna : na = e.args.length) (hca : na ≤ ca) (ha : OkAddr aa ca) (hxs : ExsD (mask w (bd :: M)) e.args aa)
    (hd : DeckAt w0 w3 bd) (hc : Chg [bd] w w3) (hcW : Chg [be] w3 W) (hbe : w.heap.size ≤ be) (hB : w.heap.size ≤ B) (hbd : bd < w.heap.size) (h0 : w0.heap.size ≤ w.heap.size) :
    SpoiltQ e x w0 bd M w (.returned (ExV.val ⟨op, name, aw, nw, cw, lo, hi, aa, na, ca⟩)) (put6 W B ⟨op, name, aw, nw, cw, lo, hi, aa, na, ca⟩) := by
  have hcc : Chg [bd] w W := hc.trans hcW (by intro y hy; simp at hy; subst hy; exact Or.inr hbe)
  have hsub := sub_new (M := M) (N := [B]) hcc (by simp; omega)
  have f := fits_parts hf
  have g := few_parts hw
  refine spoilt_end (e' := .mk op name e.words lo hi e.args) ?_ ?_ ?_ (IsEx.mk (hst.mono hsub) hna hca ha (ExsD.mono hsub _ _ hxs)) (hd.chg hcW (by simp; omega) (by simp; omega)) hcc hB hbd
  · unfold Ex.fits; exact ⟨hname, f.2⟩
  · unfold Ex.few; exact g
  · have := e.size_eq
    simp only [Ex.size]
    omega
set_option maxRecDepth 100000 in
set_option maxHeartbeats 4000000 in
theorem spoilt_step (m : Nat) (ih : SpoiltDo m) (hm1 : m ≤ 1000) : SpoiltDo (m + 1) := by
  intro e x ev xv w0 w bd M hm hok hd he hxx hxf hxw hM
  have IH := Lib.hid ih
  have HM := Lib.hid hM
  obtain ⟨aw, nw, cw, aa, na, ca, ee, hw, hna, hca, ha, hxs⟩ := he.parts
  have h0w : w0.heap.size ≤ w.heap.size := by obtain ⟨_, _, _, _, _, _, _, _, hx, _⟩ := hd; exact hx.size
  have hbd : bd < w.heap.size := by obtain ⟨_, _, _, _, hb, _⟩ := hd; exact blk_lt hb
  have HDW := Lib.hid (hd.ext ((((Ext.refl w).alloc (.cells #[.int .i64 e.op, .string e.name, .slice aw nw cw, .int .i64 e.lo, .int .i64 e.hi, .slice aa na ca] 28)).alloc (.cells xv.cells.toArray 28)).alloc (.cells exV0.cells.toArray 28)))
  have HBE := Lib.hid (blk_alloc (o' := .cells exV0.cells.toArray 28) (blk_alloc (o' := .cells xv.cells.toArray 28) (alloc_new w (.cells #[.int .i64 e.op, .string e.name, .slice aw nw cw, .int .i64 e.lo, .int .i64 e.hi, .slice aa na ca] 28))))
  have HBXX := Lib.hid (blk_alloc (o' := .cells exV0.cells.toArray 28) (alloc_at (w := w.alloc (.cells #[.int .i64 e.op, .string e.name, .slice aw nw cw, .int .i64 e.lo, .int .i64 e.hi, .slice aa na ca] 28)) (o := .cells xv.cells.toArray 28) (n := w.heap.size + 1) (by simp)))
  have HBR := Lib.hid (alloc_at (w := (w.alloc (.cells #[.int .i64 e.op, .string e.name, .slice aw nw cw, .int .i64 e.lo, .int .i64 e.hi, .slice aa na ca] 28)).alloc (.cells xv.cells.toArray 28)) (o := .cells exV0.cells.toArray 28) (n := w.heap.size + 1 + 1) (by simp))
  have HXW := Lib.hid ((((Ext.refl w).alloc (.cells #[.int .i64 e.op, .string e.name, .slice aw nw cw, .int .i64 e.lo, .int .i64 e.hi, .slice aa na ca] 28)).alloc (.cells xv.cells.toArray 28)).alloc (.cells exV0.cells.toArray 28))
  rw [ee]
  unfold exV0 ExV.cells at HDW HBE HBXX HBR HXW
  unfold ExV.val exV
  have HNA := Lib.hid hna
  have HST := Lib.hid hw
  have HXS := Lib.hid hxs
  have HIX := Lib.hid hxx
  have HXF := Lib.hid hxf
  have HXFW := Lib.hid hxw
  have HOA := Lib.hid ha
  have HOK := Lib.hid hok
  have hES := e.size_eq
  have HES := Lib.hid hES
  have HFIT := Lib.hid (okTree_fits e.size e (Nat.le_refl _) hok)
  have HNF := Lib.hid (okNode_fits (okTree_parts hok).1)
  have HNS := Lib.hid hw.1
  have hla := length_le_sizes e.args
  have hnaS : na ≤ 1001 := by omega
  have hwl : nw ≤ 12 := by
    have hn := (okTree_parts hok).1
    have h1 := hw.1
    rcases hn with ⟨_, _, h, _⟩ | ⟨_, _, h, _⟩ | ⟨_, _, h, _⟩ | ⟨_, _, h, _⟩ | ⟨_, _, h, _⟩ | ⟨_, _, h, _⟩ | ⟨_, _, h, _⟩
    · rw [h] at h1; simp at h1; omega
    · rw [h] at h1; simp at h1; omega
    · rw [h] at h1; simp at h1; omega
    · simp only [wordsB, Bool.and_eq_true, decide_eq_true_eq] at h; have := h.1.1.2; omega
    · rw [h] at h1; simp at h1; omega
    · rw [h] at h1; simp at h1; omega
    · rw [h] at h1; simp at h1; omega
  clear ih hM hd ee hna hw hxs hxx hxf hxw ha hok hES he hla
  go_enter Tryz.func16, Tryz.ntmps16
  go_upto_region 1 with fail
  generalize ((w.alloc (.cells #[.int .i64 e.op, .string e.name, .slice aw nw cw, .int .i64 e.lo, .int .i64 e.hi, .slice aa na ca] 28)).alloc (.cells [.int .i64 xv.op, .string xv.name, .slice xv.aw xv.nw xv.cw, .int .i64 xv.lo, .int .i64 xv.hi, .slice xv.aa xv.na xv.ca].toArray 28)).alloc (.cells [.int .i64 0, .string ⟨#[]⟩, .slice none 0 0, .int .i64 0, .int .i64 0, .slice none 0 0].toArray 28) = wb at *
  have hle := blk_lt HBE.out
  have hlr := blk_lt HBR.out
  obtain ⟨b0, b1, b2, b3, b4, b5, bf⟩ := blk6 HBE.out
  go_cut [17] (fun s17 wx => ∃ c : Bool, s17 = .bool c ∧ (c = true → 0 < na) ∧ Chg [bd] wb wx ∧ DeckAt w0 wx bd)
  case first =>
    by_cases hp : 0 < na
    · have t1 : decide (0 < (na : Int)) = true := by simp; omega
      have t2 : decide (0 < na) = true := by simp; omega
      go_wp2_with fail
      refine (next_calls HDW.out _ (by omega) (by omega)).mono ?_
      rintro r w1 ⟨r1, rfl, hr0, hr1, hd1, hc1⟩
      have HD1 := Lib.hid hd1
      have HC1 := Lib.hid hc1
      clear hd1 hc1 b0 b1 b2 b3 b4 b5 bf
      go_wp2_with fail
      go_meet
      case rel => exact ⟨_, rfl, fun _ => hp, HC1.out, HD1.out⟩
    · have t1 : decide (0 < (na : Int)) = false := by simp; omega
      have t2 : decide (0 < na) = false := by simp; omega
      go_wp2_with fail
      go_meet
      case rel => exact ⟨false, rfl, fun h => by simp at h, Chg.refl _ _, HDW.out⟩
  case rest =>
  obtain ⟨c, rfl, hcn, hc1, hd1⟩ := hcut
  clear b0 b1 b2 b3 b4 b5 bf
  have HCW := Lib.hid (show Chg [bd] w wc from ((HXW.out.chg [bd]).then hc1))
  have HBE := Lib.hid (hc1.blk HBE.out (by simp; omega))
  have HBXX := Lib.hid (hc1.blk HBXX.out (by simp; omega))
  have HBR := Lib.hid (hc1.blk HBR.out (by simp; omega))
  have HD1 := Lib.hid hd1
  have HCN := Lib.hid hcn
  have hz1 := hc1.size
  clear hc1 hd1 hcn HDW HXW
  cases c with
  | true =>
    have hnp : 0 < na := HCN.out rfl
    clear HCN
    obtain ⟨b0, b1, b2, b3, b4, b5, bf⟩ := blk6 HBE.out
    have hlE := blk_lt HBE.out
    go_wp2_with fail
    refine (next_calls HD1.out _ (by omega) (by omega)).mono ?_
    rintro r w2 ⟨q, rfl, hq0, hq1, hd2, hc2⟩
    obtain ⟨k, rfl⟩ : ∃ k : Nat, q = (k : Int) := ⟨q.toNat, by omega⟩
    have hkn : k < na := by omega
    have HCW := Lib.hid (HCW.out.then hc2)
    have HBE := Lib.hid (hc2.blk HBE.out (by simp; omega))
    have HBXX := Lib.hid (hc2.blk HBXX.out (by simp; omega))
    have HBR := Lib.hid (hc2.blk HBR.out (by simp; omega))
    have HD2 := Lib.hid hd2
    have hz2 := hc2.size
    clear hc2 hd2 HD1 hq0 hq1 b0 b1 b2 b3 b4 b5 bf hlE
    obtain ⟨b0, b1, b2, b3, b4, b5, bf⟩ := blk6 HBE.out
    obtain ⟨x0, x1, x2, x3, x4, x5, xf⟩ := blk6 HBXX.out
    obtain ⟨r0, r1, r2, r3, r4, r5, rf⟩ := blk6 HBR.out
    have hl2 := blk_lt HBR.out
    have hlE := blk_lt HBE.out
    obtain ⟨xs, hR, hcell⟩ := exs_list HXS.out
    have HR := Lib.hid hR
    have HXL := Lib.hid (show xs.length = na by rw [← hR.1, ← HNA.out])
    have HLEN := Lib.hid (show (xs.flatMap ExV.cells).length = na * 6 by rw [length_flatMap_of ExV.cells 6 (fun _ => rfl), ← hR.1, ← HNA.out])
    have HSL := Lib.hid (show 0 < na → ∃ b off, aa = some ⟨b, off, none⟩ ∧ ∀ j (hj : j < (xs.flatMap ExV.cells).length), (w2.alloc (.cells #[] 28)).cell? ⟨b, off + j, none⟩ = some (xs.flatMap ExV.cells)[j] from fun h => by
      obtain ⟨b, off, e1, e2⟩ := hcell (by have := HNA.out; omega)
      exact ⟨b, off, e1, fun j hj => mask_in_sub (HCW.out.alloc _) _ _ (e2 j hj)⟩)
    clear hR hcell
    go_wp2_with (at_builtin; refine wpList_append_all elemEx rfl _ _ rfl w2.heap.size _ 0 [] rfl ?o0 aa na ca (xs.flatMap ExV.cells) rfl ?o1 ?o2 ?o3 ?o4 ?o5 ?o6 ?_)
    case o0 => exact World.ownsRow_lit w2 #[] 0 (Nat.le_refl _) (by simp) rfl
    case o1 => exact HLEN.out
    case o2 => exact fun h => HSL.out h
    case o3 => exact cells_one xs
    case o4 => omega
    case o5 => omega
    case o6 => simp
    intro v3 w3 hown3 hgrow3 hat3
    have HG := Lib.hid hgrow3
    have HCA := Lib.hid (show Chg [bd] w w3 from (HCW.out.alloc _).grown hgrow3 (fun y hy => by simp only [Value.ownBlock] at hy; injection hy with hy; subst hy; exact Or.inr (by omega)))
    have hrn : ∀ k, k < w2.heap.size → k ∉ rowOf (.slice (some ⟨w2.heap.size, 0, none⟩) 0 0) := fun k hk hm => by have := mem_rowOf.1 hm; simp only [Value.ownBlock] at this; injection this with this; omega
    have HBE := Lib.hid ((grown_chg hgrow3).blk (blk_alloc HBE.out) (hrn _ (by omega)))
    have HBR := Lib.hid ((grown_chg hgrow3).blk (blk_alloc HBR.out) (hrn _ (by omega)))
    have HD3 := Lib.hid ((HD2.out.ext ((Ext.refl w2).alloc _)).chg (grown_chg hgrow3) (hrn _ (by omega)) (fun y hy => by have := mem_rowOf.1 hy; simp only [Value.ownBlock] at this; injection this with this; omega))
    have HO3 := Lib.hid hown3
    have HAT := Lib.hid (show ∀ k, v3.ownBlock = some k → w2.heap.size ≤ k ∧ k < w3.heap.size from fun k hk => World.ownsRow.lt hown3 k hk)
    have hz3 := hgrow3.size
    simp at hz3
    have HBXX := Lib.hid ((grown_chg hgrow3).blk (blk_alloc HBXX.out) (hrn _ (by omega)))
    clear hown3 hgrow3 hat3 hrn b0 b1 b2 b3 b4 b5 bf x0 x1 x2 x3 x4 x5 xf r0 r1 r2 r3 r4 r5 rf hl2 hlE
    obtain ⟨b0, b1, b2, b3, b4, b5, bf⟩ := blk6 HBE.out
    obtain ⟨r0, r1, r2, r3, r4, r5, rf⟩ := blk6 HBR.out
    have hl2 := blk_lt HBR.out
    have hlE := blk_lt HBE.out
    obtain ⟨g, cap, cur, hv3, hg1, hgb, hgn, hgc⟩ : ∃ g cap cur, v3 = .slice (some ⟨g, 0, none⟩) na cap ∧ w2.heap.size ≤ g ∧ w3.heap[g]? = some (.cells cur 28 (0, 0)) ∧ na * 6 ≤ cur.size ∧ ∀ j, j < na * 6 → cur[j]? = (xs.flatMap ExV.cells)[j]? := by
      have h := HO3.out
      rcases h.2 with ⟨_, h0⟩ | ⟨g, cap, cur, h1, h2, h3, h4, h5, h6, h7⟩
      · omega
      · refine ⟨g, cap, cur, by simpa using h1, h2, h3, ?_, fun j hj => ?_⟩
        · rw [h6]
          have hq : na ≤ cap := by simpa using h4
          omega
        · have h8 := congrArg (fun l => l[j]?) h7
          try simp only [Nat.zero_add] at h8
          rw [List.getElem?_take, if_pos hj] at h8
          simpa using h8
    subst hv3
    have HGB := Lib.hid hgb
    have HGC := Lib.hid hgc
    have hgl := blk_lt hgb
    have hk6 : k * 6 + 6 ≤ cur.size := by omega
    have hkx : k < xs.length := by have := HXL.out; omega
    have hka : k < e.args.length := by have := HNA.out; omega
    have HCK := Lib.hid (show ∀ j, j < 6 → cur[k * 6 + j]? = xs[k].cells[j]? from fun j hj => by
      have h1 := HGC.out (k * 6 + j) (by omega)
      rw [h1, flatMap_at ExV.cells 6 (fun _ => rfl) xs k hkx j (by rw [exV_len]; exact hj), List.getElem?_eq_getElem (by rw [exV_len]; exact hj)])
    have hsza := sizes_take_succ e.args k hka
    have hszb := sizes_take_le e.args (k + 1)
    have hkm : e.args[k].size ≤ m := by have := HES.out; omega
    have HOKK := Lib.hid ((okTree_parts HOK.out).2 _ (List.getElem_mem hka))
    clear hsza hszb hgb hgc b0 b1 b2 b3 b4 b5 bf
    go_upto_region 4 with fail
    obtain ⟨x0, x1, x2, x3, x4, x5, xf⟩ := blk6 HBXX.out
    have hlX := blk_lt HBXX.out
    refine wp_region_grow (m := 10) [8, 9] (Gs4 w0 w3 bd) (Es4 bd) (Rs4 e.args[k] x g na cap k bd xs[k] xv ([w.heap.size, w.heap.size + 1, w.heap.size + 1 + 1, g] ++ M)) (by kernel_rfl) (by kernel_rfl) ⟨(Chg.refl _ _).drew, HD3.out.ext (Ext.refl w3).drew⟩ (fun i k v W W' hi _ _ _ hR hE => rs4_keeps hi hR hE) ?_ ?_
    · intro i o hi ho vs W hG hd ρ hρ
      have hi' : i = 0 ∨ i = 1 ∨ i = 2 ∨ i = 3 ∨ i = 4 ∨ i = 5 ∨ i = 6 ∨ i = 7 ∨ i = 8 ∨ i = 9 := by omega
      clear hi
      have o1 : ρ (.tmp 1) = .pointer (some ⟨bd, 0, none⟩) := hρ.out 1 rfl
      have o5 : ρ (.tmp 5) = .pointer (some ⟨w.heap.size + 1, 0, none⟩) := hρ.out 5 rfl
      have o7 : ρ (.tmp 7) = .int .i64 k := hρ.out 7 rfl
      have o8 : ρ (.tmp 8) = .slice (some ⟨g, 0, none⟩) na cap := hρ.out 8 rfl
      have i0 := hρ.ins 0 27 (by omega) rfl (Nat.le_of_ble_eq_true rfl)
      have i1 := hρ.ins 1 28 (by omega) rfl (Nat.le_of_ble_eq_true rfl)
      have i2 := hρ.ins 2 29 (by omega) rfl (Nat.le_of_ble_eq_true rfl)
      have i3 := hρ.ins 3 30 (by omega) rfl (Nat.le_of_ble_eq_true rfl)
      have i4 := hρ.ins 4 31 (by omega) rfl (Nat.le_of_ble_eq_true rfl)
      have i5 := hρ.ins 5 32 (by omega) rfl (Nat.le_of_ble_eq_true rfl)
      have i6 := hρ.ins 6 33 (by omega) rfl (Nat.le_of_ble_eq_true rfl)
      have i7 := hρ.ins 7 34 (by omega) rfl (Nat.le_of_ble_eq_true rfl)
      have hcs := hρ.const
      have hfn := hρ.func
      clear hρ
      have hgW := hG.1.blk HGB.out (by simp; omega)
      obtain ⟨y0, y1, y2, y3, y4, y5, yf⟩ := blk6 (hG.1.blk HBXX.out (by simp; omega))
      have c0 : W.cell? ⟨g, k * 6, none⟩ = some (.int .i64 xs[k].op) := by rw [blk_cell hgW]; have := HCK.out 0 (by omega); simpa [ExV.cells] using this
      have c1 : W.cell? ⟨g, k * 6 + 1, none⟩ = some (.string xs[k].name) := by rw [blk_cell hgW]; have := HCK.out 1 (by omega); simpa [ExV.cells] using this
      have c2 : W.cell? ⟨g, k * 6 + 2, none⟩ = some (.slice xs[k].aw xs[k].nw xs[k].cw) := by rw [blk_cell hgW]; have := HCK.out 2 (by omega); simpa [ExV.cells] using this
      have c3 : W.cell? ⟨g, k * 6 + 3, none⟩ = some (.int .i64 xs[k].lo) := by rw [blk_cell hgW]; have := HCK.out 3 (by omega); simpa [ExV.cells] using this
      have c4 : W.cell? ⟨g, k * 6 + 4, none⟩ = some (.int .i64 xs[k].hi) := by rw [blk_cell hgW]; have := HCK.out 4 (by omega); simpa [ExV.cells] using this
      have c5 : W.cell? ⟨g, k * 6 + 5, none⟩ = some (.slice xs[k].aa xs[k].na xs[k].ca) := by rw [blk_cell hgW]; have := HCK.out 5 (by omega); simpa [ExV.cells] using this
      have hzW := hG.1.size
      have HG := Lib.hid hG
      clear hG hgW x0 x1 x2 x3 x4 x5 xf
      rcases hi' with rfl | rfl | rfl | rfl | rfl | rfl | rfl | rfl | rfl | rfl
      · cases ho
        unfold GivesOp
        go_simp
        exact ⟨Chg.refl _ _, HG.out, rfl⟩
      · cases ho
        unfold GivesOp
        go_simp
        exact ⟨Chg.refl _ _, HG.out, rfl⟩
      · cases ho
        unfold GivesOp
        go_simp
        exact ⟨Chg.refl _ _, HG.out, rfl⟩
      · cases ho
        unfold GivesOp
        go_simp
        exact ⟨Chg.refl _ _, HG.out, rfl⟩
      · cases ho
        have q2 : vs 2 = _ := hd ⟨2, .data⟩ (by simp) rfl
        rw [q2] at i2
        have q3 : vs 3 = _ := hd ⟨3, .data⟩ (by simp) rfl
        rw [q3] at i3
        unfold GivesOp
        go_simp
        exact ⟨Chg.refl _ _, HG.out, rfl⟩
      · cases ho
        have q4 : vs 4 = _ := hd ⟨4, .data⟩ (by simp) rfl
        rw [q4] at i4
        unfold GivesOp
        go_simp
        exact ⟨Chg.refl _ _, HG.out, rfl⟩
      · cases ho
        unfold GivesOp
        go_simp
        exact ⟨Chg.refl _ _, HG.out, rfl⟩
      · cases ho
        unfold GivesOp
        go_simp
        exact ⟨Chg.refl _ _, HG.out, rfl⟩
      · cases ho
        have q5 : vs 5 = _ := hd ⟨5, .data⟩ (by simp) rfl
        rw [q5] at i5
        have q6 : vs 6 = _ := hd ⟨6, .data⟩ (by simp) rfl
        rw [q6] at i6
        have q7 : vs 7 = _ := hd ⟨7, .data⟩ (by simp) rfl
        rw [q7] at i7
        unfold GivesOp
        go_simp
        have hcW : Chg [bd] w W := HCA.out.then HG.out.1
        have hsub := sub_new (M := M) (N := [w.heap.size, w.heap.size + 1, w.heap.size + 1 + 1, g]) hcW (by simp; omega)
        refine (IH.out e.args[k] x xs[k] xv w0 W bd _ hkm HOKK.out HG.out.2 ((HR.out.2 k hka hkx).mono hsub) (HIX.out.mono hsub) HXF.out HXFW.out ?_).mono ?_
        · intro y hy
          rcases List.mem_append.1 hy with hy | hy
          · simp at hy; omega
          · have := HM.out y hy; omega
        · rintro r W' ⟨e', v', rfl, f1, f2, f3, f4, f5, f6⟩
          exact ⟨_, rfl, f6, ⟨HG.out.1.then f6, f5⟩, e', v', rfl, f1, f2, f3, f4⟩
      · cases ho
        have q0 : vs 0 = _ := hd ⟨0, .data⟩ (by simp) rfl
        rw [q0] at i0
        have q1 : vs 1 = _ := hd ⟨1, .data⟩ (by simp) rfl
        rw [q1] at i1
        unfold GivesOp
        go_simp
        exact ⟨Chg.refl _ _, HG.out, rfl⟩
    · intro vs W hG hR
      rw [if_neg (by decide +kernel)]
      obtain ⟨e', v', q8, f1, f2, f3, f4⟩ := hR 8 (by simp) (by omega)
      have q9 : vs 9 = _ := hR 9 (by simp) (by omega)
      unfold ExV.val exV at q8
      unfold wpOp
      simp only [acts, dstAt, List.range, List.range.loop, List.foldl_cons, List.foldl_nil, q8, q9]
      have hgW := hG.1.blk HGB.out (by simp; omega)
      have c0 : W.cell? ⟨g, k * 6, none⟩ = some (.int .i64 xs[k].op) := by rw [blk_cell hgW]; have := HCK.out 0 (by omega); simpa [ExV.cells] using this
      have c1 : W.cell? ⟨g, k * 6 + 1, none⟩ = some (.string xs[k].name) := by rw [blk_cell hgW]; have := HCK.out 1 (by omega); simpa [ExV.cells] using this
      have c2 : W.cell? ⟨g, k * 6 + 2, none⟩ = some (.slice xs[k].aw xs[k].nw xs[k].cw) := by rw [blk_cell hgW]; have := HCK.out 2 (by omega); simpa [ExV.cells] using this
      have c3 : W.cell? ⟨g, k * 6 + 3, none⟩ = some (.int .i64 xs[k].lo) := by rw [blk_cell hgW]; have := HCK.out 3 (by omega); simpa [ExV.cells] using this
      have c4 : W.cell? ⟨g, k * 6 + 4, none⟩ = some (.int .i64 xs[k].hi) := by rw [blk_cell hgW]; have := HCK.out 4 (by omega); simpa [ExV.cells] using this
      have c5 : W.cell? ⟨g, k * 6 + 5, none⟩ = some (.slice xs[k].aa xs[k].na xs[k].ca) := by rw [blk_cell hgW]; have := HCK.out 5 (by omega); simpa [ExV.cells] using this
      have cf : ∀ j, W.frozen? ⟨g, j, none⟩ = false := fun j => frozen_of_row W g j cur _ hgW
      go_simp
      refine Or.inl ?_
      have hP := put6at_chg W g (k * 6) v' (N := [g]) (by simp)
      have hPc := put6at_cell (x := v') hgW hk6
      have HBE6 := Lib.hid (hP.blk (hG.1.blk HBE.out (by simp; omega)) (by simp; omega))
      have HBR6 := Lib.hid (hP.blk (hG.1.blk HBR.out (by simp; omega)) (by simp; omega))
      unfold put6at at hP hPc HBE6 HBR6
      generalize ((((((W.setCell ⟨g, k * 6, none⟩ (.int .i64 v'.op)).setCell ⟨g, k * 6 + 1, none⟩ (.string v'.name)).setCell ⟨g, k * 6 + 2, none⟩ (.slice v'.aw v'.nw v'.cw)).setCell ⟨g, k * 6 + 3, none⟩ (.int .i64 v'.lo)).setCell ⟨g, k * 6 + 4, none⟩ (.int .i64 v'.hi)).setCell ⟨g, k * 6 + 5, none⟩ (.slice v'.aa v'.na v'.ca)) = W6 at *
      have h0d : w0.heap.size ≤ bd := by obtain ⟨_, _, _, _, _, _, _, _, _, h⟩ := hG.2; exact h
      have hD6 : DeckAt w0 W6 bd := hG.2.chg hP (by simp; omega) (by simp; omega)
      have hC6 : Chg [bd] w W6 := (HCA.out.then hG.1).trans hP (by intro y hy; simp at hy; subst hy; exact Or.inr (by omega))
      have hcb : Chg [w.heap.size] W6 (W6.setCell ⟨w.heap.size, 5, none⟩ (.slice (some ⟨g, 0, none⟩) na cap)) := (Chg.refl _ _).setCell (Or.inl (by simp)) _
      have hcc : Chg [bd] w (W6.setCell ⟨w.heap.size, 5, none⟩ (.slice (some ⟨g, 0, none⟩) na cap)) := hC6.trans hcb (by intro y hy; simp at hy; subst hy; exact Or.inr (Nat.le_refl _))
      have hzG := hG.1.size
      have hgN : g ∉ bd :: ((w.heap.size + 1 + 1) :: M) := fun h => by
        simp only [List.mem_cons] at h
        rcases h with h | h | h
        · omega
        · omega
        · have := HM.out g h; omega
      have HXS6 := Lib.hid (show ExsD (mask (W6.setCell ⟨w.heap.size, 5, none⟩ (.slice (some ⟨g, 0, none⟩) na cap)) (bd :: ((w.heap.size + 1 + 1) :: M))) (e.args.set k e') (some ⟨g, 0, none⟩) by
        refine ExsD.of (e.args.set k e') 0 (xs.set k v') (by simp [HR.out.1]) fun i h1 h2 => ⟨fun j hj => ?_, ?_⟩
        · have hi : i < xs.length := by simpa using h2
          rw [mask_cell, if_neg hgN, hcb.cell' (by simp; omega) (by simp only; have := hP.size; omega), hPc]
          by_cases hik : i = k
          · subst hik
            rw [if_pos (by omega)]
            simp only [List.getElem_set_self]
            congr 1
            omega
          · rw [if_neg (by omega), List.getElem_set_ne (fun h => hik h.symm)]
            have := HGC.out (0 + i * 6 + j) (by have := HXL.out; omega)
            rw [this]
            have hq := flatMap_at ExV.cells 6 (fun _ => rfl) xs i hi j (by rw [exV_len]; exact hj)
            rw [Nat.zero_add, hq, List.getElem?_eq_getElem (by rw [exV_len]; exact hj)]
        · by_cases hik : i = k
          · subst hik
            simp only [List.getElem_set_self]
            refine f4.mono (mask_sub_mask fun y hy hn => ?_)
            simp only [List.mem_cons, List.mem_append, not_or, List.not_mem_nil, or_false] at hn ⊢
            exact ⟨⟨hn.1, hn.2.1.2.2.1, hn.2.2⟩, (hcb.block y (Nat.lt_of_lt_of_le hy hP.size) (by simpa using hn.2.1.1)).trans (hP.block y hy (by simpa using hn.2.1.2.2.2))⟩
          · simp only [List.getElem_set_ne (fun h => hik (Eq.symm h))]
            exact (HR.out.2 i (by simpa using h1) (by simpa using h2)).mono (sub_new (N := [w.heap.size + 1 + 1]) hcc (by simp; omega)))
      have HD6 := Lib.hid hD6
      have HC6 := Lib.hid hC6
      have HCB := Lib.hid hcb
      have hcapn : na ≤ cap := by
        rcases HO3.out.2 with ⟨_, h0⟩ | ⟨g', cap', cur', h1, _, _, h4, _⟩
        · omega
        · simp only [Value.slice.injEq, true_and] at h1
          have := h1.2
          omega
      have HF := Lib.hid (And.intro f1 f2)
      have HSZ := Lib.hid (show sizes (e.args.set k e') ≤ sizes e.args + x.size + 1 by have := sizes_set e.args k hka e'; omega)
      clear hR hG q8 q9 hP hPc hgW c0 c1 c2 c3 c4 c5 cf hD6 hC6 hcb hcc f1 f2 f3 f4 r0 r1 r2 r3 r4 r5 rf hl2 hlE
      obtain ⟨b0, b1, b2, b3, b4, b5, bf⟩ := blk6 HBE6.out
      obtain ⟨r0, r1, r2, r3, r4, r5, rf⟩ := blk6 HBR6.out
      have hl2 := blk_lt HBR6.out
      have hlE := blk_lt HBE6.out
      go_wp2_with fail
      refine bodyPost_ret (v := ExV.val ⟨e.op, e.name, aw, nw, cw, e.lo, e.hi, some ⟨g, 0, none⟩, na, cap⟩) (by simp [results, Tryz.results16, go_sem, ExV.val, exV, r0, r1, r2, r3, r4, r5]) rfl ?_
      refine spoilt_args (args := e.args.set k e') (be := w.heap.size) (B := w.heap.size + 1 + 1) HFIT.out.1 HFIT.out.2 ?_ HSZ.out HST.out (by have := HNA.out; simp; omega) hcapn (Or.inr ⟨g, 0, rfl⟩) HXS6.out HD6.out HC6.out HCB.out (Nat.le_refl _) (by omega) hbd h0w
      intro y hy
      rcases List.mem_or_eq_of_mem_set hy with hy | rfl
      · exact ⟨fitsAll_mem (fits_parts HFIT.out.1).2.2 y hy, fewAll_mem (few_parts HFIT.out.2).2 y hy⟩
      · exact HF.out
  | false =>
    clear HCN
    go_wp2_with fail
    refine (next_calls HD1.out _ (by omega) (by omega)).mono ?_
    rintro r w2 ⟨r7, rfl, hr0, hr7, hd2, hc2⟩
    have HCW := Lib.hid (HCW.out.then hc2)
    have HBE := Lib.hid (hc2.blk HBE.out (by simp; omega))
    have HBXX := Lib.hid (hc2.blk HBXX.out (by simp; omega))
    have HBR := Lib.hid (hc2.blk HBR.out (by simp; omega))
    have HD2 := Lib.hid hd2
    have hz2 := hc2.size
    clear hc2 hd2 HD1
    obtain ⟨b0, b1, b2, b3, b4, b5, bf⟩ := blk6 HBE.out
    obtain ⟨x0, x1, x2, x3, x4, x5, xf⟩ := blk6 HBXX.out
    obtain ⟨r0, r1, r2, r3, r4, r5, rf⟩ := blk6 HBR.out
    have hl2 := blk_lt HBR.out
    have hlE := blk_lt HBE.out
    have HSUB := Lib.hid (sub_new (M := M) (N := [w.heap.size + 1 + 1]) HCW.out (by simp; omega))
    rcases list7 hr0 hr7 with rfl | rfl | rfl | rfl | rfl | rfl | rfl
    · go_wp2_with fail
      refine bodyPost_ret (v := xv.val) (by simp [results, Tryz.results16, go_sem, ExV.val, exV, r0, r1, r2, r3, r4, r5]) rfl ?_
      exact spoilt_end (B := w.heap.size + 1 + 1) HXF.out HXFW.out (by omega) (HIX.out.mono HSUB.out) HD2.out HCW.out (by omega) hbd
    · go_wp2_with fail
      refine (next_calls HD2.out _ (by omega) (by omega)).mono ?_
      rintro r w3 ⟨q, rfl, hq0, hq1, hd3, hc3⟩
      have HCW := Lib.hid (HCW.out.then (hc3))
      have HBE := Lib.hid (hc3.blk HBE.out (by simp; omega))
      have HBR := Lib.hid (hc3.blk HBR.out (by simp; omega))
      have HD3 := Lib.hid hd3
      clear hc3 hd3 b0 b1 b2 b3 b4 b5 bf x0 x1 x2 x3 x4 x5 xf r0 r1 r2 r3 r4 r5 rf hl2 hlE
      obtain ⟨b0, b1, b2, b3, b4, b5, bf⟩ := blk6 HBE.out
      obtain ⟨r0, r1, r2, r3, r4, r5, rf⟩ := blk6 HBR.out
      have hl2 := blk_lt HBR.out
      have hlE := blk_lt HBE.out
      have HNAME := Lib.hid HNF.out.1
      go_wp2_with fail
      refine bodyPost_ret (v := ExV.val ⟨q, e.name, aw, nw, cw, e.lo, e.hi, aa, na, ca⟩) (by simp [results, Tryz.results16, go_sem, ExV.val, exV, r0, r1, r2, r3, r4, r5]) rfl ?_
      refine spoilt_plain (be := w.heap.size) (B := w.heap.size + 1 + 1) HNAME.out HFIT.out.1 HFIT.out.2 HST.out HNA.out hca HOA.out HXS.out HD3.out HCW.out ?_ (Nat.le_refl _) (by omega) hbd h0w
      exact (Chg.refl _ _).setCell (Or.inl (by simp)) _
    · go_wp2_with fail
      have HAL := Lib.hid ((Ext.refl w2).alloc (.cells #[.string ⟨#[]⟩, .string ⟨#[110, 111, 116]⟩, .string ⟨#[113]⟩, .string ⟨#[81]⟩] 9))
      have HBN := Lib.hid (alloc_new w2 (.cells #[.string ⟨#[]⟩, .string ⟨#[110, 111, 116]⟩, .string ⟨#[113]⟩, .string ⟨#[81]⟩] 9))
      refine (next_calls (HD2.out.ext HAL.out) _ (by omega) (by omega)).mono ?_
      rintro r w3 ⟨q, rfl, hq0, hq1, hd3, hc3⟩
      have HBN := Lib.hid (hc3.blk HBN.out (by simp; omega))
      have HCW := Lib.hid (HCW.out.then ((HAL.out.chg [bd]).then hc3))
      have HBE := Lib.hid (hc3.blk (HAL.out.blk HBE.out) (by simp; omega))
      have HBR := Lib.hid (hc3.blk (HAL.out.blk HBR.out) (by simp; omega))
      have HD3 := Lib.hid hd3
      clear hc3 hd3 b0 b1 b2 b3 b4 b5 bf x0 x1 x2 x3 x4 x5 xf r0 r1 r2 r3 r4 r5 rf hl2 hlE
      obtain ⟨b0, b1, b2, b3, b4, b5, bf⟩ := blk6 HBE.out
      obtain ⟨r0, r1, r2, r3, r4, r5, rf⟩ := blk6 HBR.out
      have hl2 := blk_lt HBR.out
      have hlE := blk_lt HBE.out
      have n0 := blk_cell HBN.out 0
      have n1 := blk_cell HBN.out 1
      have n2 := blk_cell HBN.out 2
      have n3 := blk_cell HBN.out 3
      simp at n0 n1 n2 n3
      have hq : q = 0 ∨ q = 1 ∨ q = 2 ∨ q = 3 := by omega
      clear hq0 hq1
      rcases hq with rfl | rfl | rfl | rfl
      · have HNAME := Lib.hid (show (⟨#[]⟩ : ByteArray).size ≤ 1000000000000000 by decide)
        go_wp2_with fail
        refine bodyPost_ret (v := ExV.val ⟨e.op, ⟨#[]⟩, aw, nw, cw, e.lo, e.hi, aa, na, ca⟩) (by simp [results, Tryz.results16, go_sem, ExV.val, exV, r0, r1, r2, r3, r4, r5]) rfl ?_
        refine spoilt_plain (be := w.heap.size) (B := w.heap.size + 1 + 1) HNAME.out HFIT.out.1 HFIT.out.2 HST.out HNA.out hca HOA.out HXS.out HD3.out HCW.out ?_ (Nat.le_refl _) (by omega) hbd h0w
        exact (Chg.refl _ _).setCell (Or.inl (by simp)) _
  
      · have HNAME := Lib.hid (show (⟨#[110, 111, 116]⟩ : ByteArray).size ≤ 1000000000000000 by decide)
        go_wp2_with fail
        refine bodyPost_ret (v := ExV.val ⟨e.op, ⟨#[110, 111, 116]⟩, aw, nw, cw, e.lo, e.hi, aa, na, ca⟩) (by simp [results, Tryz.results16, go_sem, ExV.val, exV, r0, r1, r2, r3, r4, r5]) rfl ?_
        refine spoilt_plain (be := w.heap.size) (B := w.heap.size + 1 + 1) HNAME.out HFIT.out.1 HFIT.out.2 HST.out HNA.out hca HOA.out HXS.out HD3.out HCW.out ?_ (Nat.le_refl _) (by omega) hbd h0w
        exact (Chg.refl _ _).setCell (Or.inl (by simp)) _
  
      · have HNAME := Lib.hid (show (⟨#[113]⟩ : ByteArray).size ≤ 1000000000000000 by decide)
        go_wp2_with fail
        refine bodyPost_ret (v := ExV.val ⟨e.op, ⟨#[113]⟩, aw, nw, cw, e.lo, e.hi, aa, na, ca⟩) (by simp [results, Tryz.results16, go_sem, ExV.val, exV, r0, r1, r2, r3, r4, r5]) rfl ?_
        refine spoilt_plain (be := w.heap.size) (B := w.heap.size + 1 + 1) HNAME.out HFIT.out.1 HFIT.out.2 HST.out HNA.out hca HOA.out HXS.out HD3.out HCW.out ?_ (Nat.le_refl _) (by omega) hbd h0w
        exact (Chg.refl _ _).setCell (Or.inl (by simp)) _
  
      · have HNAME := Lib.hid (show (⟨#[81]⟩ : ByteArray).size ≤ 1000000000000000 by decide)
        go_wp2_with fail
        refine bodyPost_ret (v := ExV.val ⟨e.op, ⟨#[81]⟩, aw, nw, cw, e.lo, e.hi, aa, na, ca⟩) (by simp [results, Tryz.results16, go_sem, ExV.val, exV, r0, r1, r2, r3, r4, r5]) rfl ?_
        refine spoilt_plain (be := w.heap.size) (B := w.heap.size + 1 + 1) HNAME.out HFIT.out.1 HFIT.out.2 HST.out HNA.out hca HOA.out HXS.out HD3.out HCW.out ?_ (Nat.le_refl _) (by omega) hbd h0w
        exact (Chg.refl _ _).setCell (Or.inl (by simp)) _
  
    · go_wp2_with fail
      refine (range_calls HD2.out _ _ (by omega) (by omega) (by omega)).mono ?_
      rintro r w3 ⟨q, rfl, hq0, hq1, hd3, hc3⟩
      have HCW := Lib.hid (HCW.out.then (hc3))
      have HBE := Lib.hid (hc3.blk HBE.out (by simp; omega))
      have HBR := Lib.hid (hc3.blk HBR.out (by simp; omega))
      have HD3 := Lib.hid hd3
      clear hc3 hd3 b0 b1 b2 b3 b4 b5 bf x0 x1 x2 x3 x4 x5 xf r0 r1 r2 r3 r4 r5 rf hl2 hlE
      obtain ⟨b0, b1, b2, b3, b4, b5, bf⟩ := blk6 HBE.out
      obtain ⟨r0, r1, r2, r3, r4, r5, rf⟩ := blk6 HBR.out
      have hl2 := blk_lt HBR.out
      have hlE := blk_lt HBE.out
      go_wp2_with fail
      refine (range_calls HD3.out _ _ (by omega) (by omega) (by omega)).mono ?_
      rintro r w4 ⟨q2, rfl, hq20, hq21, hd3, hc3⟩
      have HCW := Lib.hid (HCW.out.then hc3)
      have HBE := Lib.hid (hc3.blk HBE.out (by simp; omega))
      have HBR := Lib.hid (hc3.blk HBR.out (by simp; omega))
      have HD3 := Lib.hid hd3
      clear hc3 hd3 b0 b1 b2 b3 b4 b5 bf r0 r1 r2 r3 r4 r5 rf hl2 hlE
      obtain ⟨b0, b1, b2, b3, b4, b5, bf⟩ := blk6 HBE.out
      obtain ⟨r0, r1, r2, r3, r4, r5, rf⟩ := blk6 HBR.out
      have hl2 := blk_lt HBR.out
      have hlE := blk_lt HBE.out
      have HNAME := Lib.hid HNF.out.1
      go_wp2_with fail
      refine bodyPost_ret (v := ExV.val ⟨e.op, e.name, aw, nw, cw, q, q2, aa, na, ca⟩) (by simp [results, Tryz.results16, go_sem, ExV.val, exV, r0, r1, r2, r3, r4, r5]) rfl ?_
      refine spoilt_plain (be := w.heap.size) (B := w.heap.size + 1 + 1) HNAME.out HFIT.out.1 HFIT.out.2 HST.out HNA.out hca HOA.out HXS.out HD3.out HCW.out ?_ (Nat.le_refl _) (by omega) hbd h0w
      exact ((Chg.refl _ _).setCell (Or.inl (by simp)) _).setCell (Or.inl (by simp)) _
    · have HSL := Lib.hid (strs_list (HST.out.mono (mask_in_sub (HCW.out.alloc (.cells #[] 9)))))
      go_wp2_with (at_builtin; refine wpList_append_all elemStr rfl _ _ rfl w2.heap.size _ 0 [] rfl ?o0 aw nw cw (e.words.map Value.string) rfl ?o1 ?o2 ?o3 ?o4 ?o5 ?o6 ?_)
      case o0 => exact World.ownsRow_lit w2 #[] 0 (Nat.le_refl _) (by simp) rfl
      case o1 => have := HNS.out; simp; omega
      case o2 => exact fun h => HSL.out h
      case o3 => intro u hu; obtain ⟨y, _, rfl⟩ := List.mem_map.1 hu; rfl
      case o4 => omega
      case o5 => omega
      case o6 => simp
      intro v3 w3 hown3 hgrow3 hat3
      have HG := Lib.hid hgrow3
      have HCA := Lib.hid (show Chg [bd] w w3 from (HCW.out.alloc _).grown hgrow3 (fun y hy => by simp only [Value.ownBlock] at hy; injection hy with hy; subst hy; exact Or.inr (by omega)))
      have hrn : ∀ k, k < w2.heap.size → k ∉ rowOf (.slice (some ⟨w2.heap.size, 0, none⟩) 0 0) := fun k hk hm => by have := mem_rowOf.1 hm; simp only [Value.ownBlock] at this; injection this with this; omega
      have HBE := Lib.hid ((grown_chg hgrow3).blk (blk_alloc HBE.out) (hrn _ (by omega)))
      have HBR := Lib.hid ((grown_chg hgrow3).blk (blk_alloc HBR.out) (hrn _ (by omega)))
      have HD3 := Lib.hid ((HD2.out.ext ((Ext.refl w2).alloc _)).chg (grown_chg hgrow3) (hrn _ (by omega)) (fun y hy => by have := mem_rowOf.1 hy; simp only [Value.ownBlock] at this; injection this with this; omega))
      have HO3 := Lib.hid hown3
      have HAT := Lib.hid (show ∀ k, v3.ownBlock = some k → w2.heap.size ≤ k ∧ k < w3.heap.size from fun k hk => World.ownsRow.lt hown3 k hk)
      have hz3 := hgrow3.size
      simp at hz3
      clear hown3 hgrow3 hat3 hrn b0 b1 b2 b3 b4 b5 bf x0 x1 x2 x3 x4 x5 xf r0 r1 r2 r3 r4 r5 rf hl2 hlE
      obtain ⟨b0, b1, b2, b3, b4, b5, bf⟩ := blk6 HBE.out
      obtain ⟨r0, r1, r2, r3, r4, r5, rf⟩ := blk6 HBR.out
      have hl2 := blk_lt HBR.out
      have hlE := blk_lt HBE.out
      go_wp2_with fail
      have HAL := Lib.hid ((Ext.refl w3).alloc (.cells #[.string ⟨#[102, 105, 114, 101]⟩, .string ⟨#[119]⟩, .string ⟨#[105, 110]⟩] 9))
      have HBN := Lib.hid (alloc_new w3 (.cells #[.string ⟨#[102, 105, 114, 101]⟩, .string ⟨#[119]⟩, .string ⟨#[105, 110]⟩] 9))
      refine (next_calls (HD3.out.ext HAL.out) _ (by omega) (by omega)).mono ?_
      rintro r w4 ⟨q, rfl, hq0, hq1, hd4, hc4⟩
      have HBN := Lib.hid (hc4.blk HBN.out (by simp; omega))
      have hc34 : Chg [bd] w3 w4 := (HAL.out.chg [bd]).then hc4
      have HC4 := Lib.hid (HCA.out.then hc34)
      have HBE := Lib.hid (hc34.blk HBE.out (by simp; omega))
      have HBR := Lib.hid (hc34.blk HBR.out (by simp; omega))
      have HD4 := Lib.hid hd4
      have HO4 := Lib.hid (owns_chg HO3.out hc34 (fun k hk => by have := HAT.out k hk; simp; omega))
      have HAT := Lib.hid (show ∀ k, v3.ownBlock = some k → w2.heap.size ≤ k ∧ k < w4.heap.size from fun k hk => by have := HAT.out k hk; have := hc34.size; omega)
      have hz4 := hc34.size
      clear hc4 hd4 hc34 HO3 HD3 b0 b1 b2 b3 b4 b5 bf r0 r1 r2 r3 r4 r5 rf hl2 hlE
      obtain ⟨b0, b1, b2, b3, b4, b5, bf⟩ := blk6 HBE.out
      obtain ⟨r0, r1, r2, r3, r4, r5, rf⟩ := blk6 HBR.out
      have hl2 := blk_lt HBR.out
      have hlE := blk_lt HBE.out
      have n0 := blk_cell HBN.out 0
      have n1 := blk_cell HBN.out 1
      have n2 := blk_cell HBN.out 2
      simp at n0 n1 n2
      obtain ⟨kq, rfl⟩ : ∃ k : Nat, q = (k : Int) := ⟨q.toNat, by omega⟩
      obtain ⟨sW, hsW, hcW⟩ : ∃ sW : ByteArray, sW.size ≤ 1000 ∧ w4.cell? ⟨w3.heap.size, kq, none⟩ = some (.string sW) := by
        have hq : kq = 0 ∨ kq = 1 ∨ kq = 2 := by omega
        rcases hq with rfl | rfl | rfl
        · exact ⟨_, by decide, n0⟩
        · exact ⟨_, by decide, n1⟩
        · exact ⟨_, by decide, n2⟩
      clear n0 n1 n2
      go_wp2_with (at_builtin; refine wpList_append_all elemStr rfl _ _ rfl w2.heap.size v3 (0 + nw) ([] ++ e.words.map Value.string) rfl ?o0 (some ⟨w4.heap.size, 0, none⟩) 1 1 [.string sW] rfl ?o1 ?o2 ?o3 ?o4 ?o5 ?o6 ?_)
      case o0 => simpa using World.ownsRow.alloc HO4.out _
      case o1 => rfl
      case o2 => exact fun _ => ⟨_, 0, rfl, cell_alloc0 _ _ _⟩
      case o3 => intro u hu; simp at hu; subst hu; rfl
      case o4 => omega
      case o5 => omega
      case o6 => simp; omega
      intro v5 w5 hown5 hgrow5 hat5
      have HC5 := Lib.hid (show Chg [bd] w w5 from (HC4.out.alloc _).grown hgrow5 (fun y hy => Or.inr (by have := HAT.out y hy; omega)))
      have hrn : ∀ k, k < w2.heap.size → k ∉ rowOf v3 := fun k hk hm => by have := HAT.out k (mem_rowOf.1 hm); omega
      have HBE := Lib.hid ((grown_chg hgrow5).blk (blk_alloc HBE.out) (hrn _ (by omega)))
      have HBR := Lib.hid ((grown_chg hgrow5).blk (blk_alloc HBR.out) (hrn _ (by omega)))
      have HD5 := Lib.hid ((HD4.out.ext ((Ext.refl w4).alloc _)).chg (grown_chg hgrow5) (hrn _ (by omega)) (fun y hy => by have := HAT.out y (mem_rowOf.1 hy); omega))
      have hown5' : w5.ownsRow w2.heap.size 9 1 v5 (e.words ++ [sW]).length ((e.words ++ [sW]).flatMap strCells) := by
        rw [strCells_eq]
        have e1 : (e.words ++ [sW]).length = 0 + nw + 1 := by have := HNS.out; simp; omega
        rw [e1]
        simpa using hown5
      have hcb : Chg [w.heap.size] w5 (w5.setCell ⟨w.heap.size, 2, none⟩ v5) := (Chg.refl _ _).setCell (Or.inl (by simp)) _
      have hown6 := owns_chg hown5' hcb (fun k hk => by have := (World.ownsRow.lt hown5' k hk).1; simp; omega)
      obtain ⟨a6, c6, rfl, hst6, _⟩ := strs_of_owns hown6 (bd :: ((w.heap.size + 1 + 1) :: M)) (fun y hy => by
        simp only [List.mem_cons] at hy
        rcases hy with rfl | rfl | hy
        · omega
        · omega
        · have := HM.out y hy; omega)
      have HST6 := Lib.hid (show IsStrs (mask (w5.setCell ⟨w.heap.size, 2, none⟩ (.slice a6 (e.words.length + 1) c6)) (bd :: ((w.heap.size + 1 + 1) :: M))) (e.words ++ [sW]) a6 (e.words.length + 1) c6 by simpa using hst6)
      have HCB := Lib.hid (show Chg [w.heap.size] w5 (w5.setCell ⟨w.heap.size, 2, none⟩ (.slice a6 (e.words.length + 1) c6)) by simpa using hcb)
      clear hown5 hown5' hown6 hgrow5 hat5 hst6 hcb hrn b0 b1 b2 b3 b4 b5 bf r0 r1 r2 r3 r4 r5 rf hl2 hlE hcW
      obtain ⟨b0, b1, b2, b3, b4, b5, bf⟩ := blk6 HBE.out
      obtain ⟨r0, r1, r2, r3, r4, r5, rf⟩ := blk6 HBR.out
      have hl2 := blk_lt HBR.out
      have hlE := blk_lt HBE.out
      simp only [List.length_append, List.length_singleton]
      go_wp2_with fail
      refine bodyPost_ret (v := ExV.val ⟨e.op, e.name, a6, e.words.length + 1, c6, e.lo, e.hi, aa, na, ca⟩) (by simp [results, Tryz.results16, go_sem, ExV.val, exV, r0, r1, r2, r3, r4, r5]) rfl ?_
      refine spoilt_words (be := w.heap.size) (B := w.heap.size + 1 + 1) HFIT.out.1 HFIT.out.2 ?_ (by have := HNS.out; simp; omega) HST6.out HNA.out hca HOA.out HXS.out HD5.out HC5.out HCB.out (Nat.le_refl _) (by omega) hbd h0w
      intro y hy
      rcases List.mem_append.1 hy with hy | hy
      · exact HNF.out.2.1 y hy
      · simp at hy; subst hy; omega
    · obtain ⟨xs, hR, hcell⟩ := exs_list HXS.out
      have HR := Lib.hid hR
      have HLEN := Lib.hid (show (xs.flatMap ExV.cells).length = na * 6 by rw [length_flatMap_of ExV.cells 6 (fun _ => rfl), ← hR.1, ← HNA.out])
      have HSL := Lib.hid (show 0 < na → ∃ b off, aa = some ⟨b, off, none⟩ ∧ ∀ j (hj : j < (xs.flatMap ExV.cells).length), (w2.alloc (.cells #[] 28)).cell? ⟨b, off + j, none⟩ = some (xs.flatMap ExV.cells)[j] from fun h => by
        obtain ⟨b, off, e1, e2⟩ := hcell (by have := HNA.out; omega)
        exact ⟨b, off, e1, fun j hj => mask_in_sub (HCW.out.alloc _) _ _ (e2 j hj)⟩)
      clear hR hcell
      go_wp2_with (at_builtin; refine wpList_append_all elemEx rfl _ _ rfl w2.heap.size _ 0 [] rfl ?o0 aa na ca (xs.flatMap ExV.cells) rfl ?o1 ?o2 ?o3 ?o4 ?o5 ?o6 ?_)
      case o0 => exact World.ownsRow_lit w2 #[] 0 (Nat.le_refl _) (by simp) rfl
      case o1 => exact HLEN.out
      case o2 => exact fun h => HSL.out h
      case o3 => exact cells_one xs
      case o4 => omega
      case o5 => omega
      case o6 => simp
      intro v3 w3 hown3 hgrow3 hat3
      have HG := Lib.hid hgrow3
      have HCA := Lib.hid (show Chg [bd] w w3 from (HCW.out.alloc _).grown hgrow3 (fun y hy => by simp only [Value.ownBlock] at hy; injection hy with hy; subst hy; exact Or.inr (by omega)))
      have hrn : ∀ k, k < w2.heap.size → k ∉ rowOf (.slice (some ⟨w2.heap.size, 0, none⟩) 0 0) := fun k hk hm => by have := mem_rowOf.1 hm; simp only [Value.ownBlock] at this; injection this with this; omega
      have HBE := Lib.hid ((grown_chg hgrow3).blk (blk_alloc HBE.out) (hrn _ (by omega)))
      have HBR := Lib.hid ((grown_chg hgrow3).blk (blk_alloc HBR.out) (hrn _ (by omega)))
      have HD3 := Lib.hid ((HD2.out.ext ((Ext.refl w2).alloc _)).chg (grown_chg hgrow3) (hrn _ (by omega)) (fun y hy => by have := mem_rowOf.1 hy; simp only [Value.ownBlock] at this; injection this with this; omega))
      have HO3 := Lib.hid hown3
      have HAT := Lib.hid (show ∀ k, v3.ownBlock = some k → w2.heap.size ≤ k ∧ k < w3.heap.size from fun k hk => World.ownsRow.lt hown3 k hk)
      have hz3 := hgrow3.size
      simp at hz3
      clear hown3 hgrow3 hat3 hrn b0 b1 b2 b3 b4 b5 bf x0 x1 x2 x3 x4 x5 xf r0 r1 r2 r3 r4 r5 rf hl2 hlE
      obtain ⟨b0, b1, b2, b3, b4, b5, bf⟩ := blk6 HBE.out
      obtain ⟨r0, r1, r2, r3, r4, r5, rf⟩ := blk6 HBR.out
      have hl2 := blk_lt HBR.out
      have hlE := blk_lt HBE.out
      have HCL := Lib.hid (cell_allocs w3 trueV.cells 28)
      go_wp2_with (at_builtin; refine wpList_append_all elemEx rfl _ _ rfl w2.heap.size v3 (0 + na) ([] ++ xs.flatMap ExV.cells) rfl ?o0 (some ⟨w3.heap.size, 0, none⟩) 1 1 trueV.cells rfl ?o1 ?o2 ?o3 ?o4 ?o5 ?o6 ?_)
      case o0 => simpa using World.ownsRow.alloc HO3.out _
      case o1 => rfl
      case o2 => exact fun _ => ⟨_, 0, rfl, HCL.out⟩
      case o5 => omega
      case o3 => exact fun u hu => cells_one [trueV] u (by simpa using hu)
      case o4 => omega
      case o6 => simp; omega
      intro v5 w5 hown5 hgrow5 hat5
      have HC5 := Lib.hid (show Chg [bd] w w5 from (HCA.out.alloc _).grown hgrow5 (fun y hy => Or.inr (by have := HAT.out y hy; omega)))
      have hrn : ∀ k, k < w2.heap.size → k ∉ rowOf v3 := fun k hk hm => by have := HAT.out k (mem_rowOf.1 hm); omega
      have HBE := Lib.hid ((grown_chg hgrow5).blk (blk_alloc HBE.out) (hrn _ (by omega)))
      have HBR := Lib.hid ((grown_chg hgrow5).blk (blk_alloc HBR.out) (hrn _ (by omega)))
      have HD5 := Lib.hid ((HD3.out.ext ((Ext.refl w3).alloc _)).chg (grown_chg hgrow5) (hrn _ (by omega)) (fun y hy => by have := HAT.out y (mem_rowOf.1 hy); omega))
      have hcb : Chg [w.heap.size] w5 (w5.setCell ⟨w.heap.size, 5, none⟩ v5) := (Chg.refl _ _).setCell (Or.inl (by simp)) _
      have hown5' : w5.ownsRow w2.heap.size 28 6 v5 (e.args ++ [trueE]).length ((xs ++ [trueV]).flatMap ExV.cells) := by
        have e1 : (e.args ++ [trueE]).length = 0 + na + 1 := by have := HNA.out; simp; omega
        rw [e1, List.flatMap_append]
        simpa using hown5
      have hlt5 := World.ownsRow.lt hown5'
      have hown6 := owns_chg hown5' hcb (fun k hk => by have := (hlt5 k hk).1; simp; omega)
      have hcc : Chg [bd] w (w5.setCell ⟨w.heap.size, 5, none⟩ v5) := HC5.out.trans hcb (by intro y hy; simp at hy; subst hy; exact Or.inr (Nat.le_refl _))
      have hR6 : ExsR (mask (w5.setCell ⟨w.heap.size, 5, none⟩ v5) (bd :: ((w.heap.size + 1 + 1) :: M))) (e.args ++ [trueE]) (xs ++ [trueV]) := (HR.out.mono (sub_new (N := [w.heap.size + 1 + 1]) hcc (by simp; omega))).snoc (isEx_true _)
      obtain ⟨a6, c6, rfl, hle6, hok6, hxs6⟩ := exs_owns hown6 (fun k hk hm => by
        have h1 := (hlt5 k hk).1
        simp only [List.mem_cons] at hm
        rcases hm with rfl | rfl | hm
        · omega
        · omega
        · have := HM.out k hm; omega) hR6
      simp only [List.length_append, List.length_singleton] at hle6 hxs6 hcb ⊢
      have HXS6 := Lib.hid hxs6
      have HCB := Lib.hid hcb
      have HOK6 := Lib.hid hok6
      clear hown5 hown5' hown6 hgrow5 hat5 hxs6 hcb hrn hR6 hcc hlt5 hok6 HCL b0 b1 b2 b3 b4 b5 bf r0 r1 r2 r3 r4 r5 rf hl2 hlE
      obtain ⟨b0, b1, b2, b3, b4, b5, bf⟩ := blk6 HBE.out
      obtain ⟨r0, r1, r2, r3, r4, r5, rf⟩ := blk6 HBR.out
      have hl2 := blk_lt HBR.out
      have hlE := blk_lt HBE.out
      go_wp2_with fail
      refine bodyPost_ret (v := ExV.val ⟨e.op, e.name, aw, nw, cw, e.lo, e.hi, a6, e.args.length + 1, c6⟩) (by simp [results, Tryz.results16, go_sem, ExV.val, exV, r0, r1, r2, r3, r4, r5]) rfl ?_
      refine spoilt_args (args := e.args ++ [trueE]) (be := w.heap.size) (B := w.heap.size + 1 + 1) HFIT.out.1 HFIT.out.2 ?_ ?_ HST.out (by simp) hle6 HOK6.out HXS6.out HD5.out HC5.out HCB.out (Nat.le_refl _) (by omega) hbd h0w
      · intro y hy
        rcases List.mem_append.1 hy with hy | hy
        · exact ⟨fitsAll_mem (fits_parts HFIT.out.1).2.2 y hy, fewAll_mem (few_parts HFIT.out.2).2 y hy⟩
        · simp at hy; subst hy; exact true_fits
      · rw [sizes_snoc]
        have : trueE.size = 1 := by decide
        omega
    · go_wp2_with fail
      · refine bodyPost_ret (v := ExV.val ⟨e.op, e.name, aw, nw, cw, e.lo, e.hi, aa, 0, ca⟩) (by simp [results, Tryz.results16, go_sem, ExV.val, exV, r0, r1, r2, r3, r4, r5]) rfl ?_
        have hcb : Chg [w.heap.size] w2 (w2.setCell ⟨w.heap.size, 5, none⟩ (.slice aa (0) ca)) := (Chg.refl _ _).setCell (Or.inl (by simp)) _
        have hcc : Chg [bd] w (w2.setCell ⟨w.heap.size, 5, none⟩ (.slice aa (0) ca)) := HCW.out.trans hcb (by intro y hy; simp at hy; subst hy; exact Or.inr (Nat.le_refl _))
        refine spoilt_args (args := e.args.take (0)) (be := w.heap.size) (B := w.heap.size + 1 + 1) HFIT.out.1 HFIT.out.2 ?_ ?_ HST.out ?_ (by omega) HOA.out (ExsD.take _ _ _ (ExsD.mono (sub_new (N := [w.heap.size + 1 + 1]) hcc (by simp; omega)) _ _ HXS.out)) HD2.out HCW.out hcb (Nat.le_refl _) (by omega) hbd h0w
        · intro y hy
          have hy := List.mem_of_mem_take hy
          exact ⟨fitsAll_mem (fits_parts HFIT.out.1).2.2 y hy, fewAll_mem (few_parts HFIT.out.2).2 y hy⟩
        · have := sizes_take_le e.args (0); omega
        · have := HNA.out; rw [List.length_take]; omega
      · refine bodyPost_ret (v := ExV.val ⟨e.op, e.name, aw, nw, cw, e.lo, e.hi, aa, na - 1, ca⟩) (by simp [results, Tryz.results16, go_sem, ExV.val, exV, r0, r1, r2, r3, r4, r5]) rfl ?_
        have hcb : Chg [w.heap.size] w2 (w2.setCell ⟨w.heap.size, 5, none⟩ (.slice aa (na - 1) ca)) := (Chg.refl _ _).setCell (Or.inl (by simp)) _
        have hcc : Chg [bd] w (w2.setCell ⟨w.heap.size, 5, none⟩ (.slice aa (na - 1) ca)) := HCW.out.trans hcb (by intro y hy; simp at hy; subst hy; exact Or.inr (Nat.le_refl _))
        refine spoilt_args (args := e.args.take (na - 1)) (be := w.heap.size) (B := w.heap.size + 1 + 1) HFIT.out.1 HFIT.out.2 ?_ ?_ HST.out ?_ (by omega) HOA.out (ExsD.take _ _ _ (ExsD.mono (sub_new (N := [w.heap.size + 1 + 1]) hcc (by simp; omega)) _ _ HXS.out)) HD2.out HCW.out hcb (Nat.le_refl _) (by omega) hbd h0w
        · intro y hy
          have hy := List.mem_of_mem_take hy
          exact ⟨fitsAll_mem (fits_parts HFIT.out.1).2.2 y hy, fewAll_mem (few_parts HFIT.out.2).2 y hy⟩
        · have := sizes_take_le e.args (na - 1); omega
        · have := HNA.out; rw [List.length_take]; omega

theorem spoilt_calls (m : Nat) : m ≤ 1001 → SpoiltDo m := by
  induction m with
  | zero => intro _ e x ev xv w0 w bd M h; have := size_pos e; omega
  | succ m ih => intro h; exact spoilt_step m (ih (by omega)) (by omega)
end Go.Proofs.YtaepiiediblleaaGreatDoor
