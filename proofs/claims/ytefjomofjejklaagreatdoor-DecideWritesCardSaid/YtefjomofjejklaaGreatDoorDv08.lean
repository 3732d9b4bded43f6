/-
  Texts of the claim, joined: MadeP, Grow3, AppAt, GenB, GenB2, GenC, RBerr, ROrd1.
-/
import Derived.Test.YtefjomofjejklaaGreatDoorDv07
import Derived.Maps.AppendAt
namespace Go.Proofs.YtefjomofjejklaaGreatDoor
set_option maxRecDepth 100000
set_option maxHeartbeats 32000000
def bndS : Nat -> Nat | 0 => 0 | 1 => 1 | d + 2 => 3 * bndS (d + 1) + 1
theorem schemas_ok3 : (schemas.all fun l => l.all fun a => decide (a.name.size <= 1000) && (decide (a.words.length <= 1000) && a.words.all fun x => decide (x.size <= 1000))) = true := by decide +kernel
theorem fitsAll_of : (l : List Ex) -> (∀ x ∈ l, x.fits) -> fitsAll l
 | [], _ => by unfold fitsAll; trivial
 | e :: r, h => by unfold fitsAll; exact ⟨h e (by simp), fitsAll_of r fun x hx => h x (by simp [hx])⟩
theorem fewAll_of : (l : List Ex) -> (∀ x ∈ l, x.few) -> fewAll l
 | [], _ => by unfold fewAll; trivial
 | e :: r, h => by unfold fewAll; exact ⟨h e (by simp), fewAll_of r fun x hx => h x (by simp [hx])⟩
theorem bareL_of : (l : List Ex) -> (∀ x ∈ l, bareE x = true) -> bareL l = true
 | [], _ => by unfold bareL; rfl
 | e :: r, h => by unfold bareL; rw [h e (by simp), bareL_of r fun x hx => h x (by simp [hx])]; rfl
theorem sizes_of {k : Nat} : (l : List Ex) -> (∀ x ∈ l, x.size <= k) -> sizes l <= l.length * k
 | [], _ => by simp [sizes]
 | e :: r, h => by
  have h1 := h e (by simp)
  have h2 := sizes_of r fun x hx => h x (by simp [hx])
  simp only [sizes, List.length_cons, Nat.succ_mul]
  omega
structure MadeOk (d : Nat) (e : Ex) : Prop where
 fits : e.fits
 few : e.few
 size : e.size <= bndS d
 bare : bareE e = true
theorem bndS_pos (d : Nat) : 1 <= bndS (d + 1) := by cases d with | zero => exact Nat.le_refl _ | succ d => simp only [bndS]; omega
theorem atom_okay {attrs : List Attr} (hs : attrs ∈ schemas) {names : ZB} (hn : ∀ x ∈ names, x.size <= 1000) {e : Ex} (h : AtomOf attrs names e) (d : Nat) : MadeOk (d + 1) e := by
 have hat : ∀ a ∈ attrs, _ := fun a ha => List.all_eq_true.1 (List.all_eq_true.1 schemas_ok3 attrs hs) a ha
 obtain ⟨op, name, words, lo, hi, args⟩ := e
 obtain ⟨ha, h⟩ := h
 simp only [Ex.args] at ha
 subst ha
 simp only [Ex.op, Ex.name, Ex.words, Ex.lo, Ex.hi] at h
 have key : name.size <= 1000 /\ words.length <= 1000 /\ ∀ x ∈ words, x.size <= 1000 := by
  rcases h with ⟨h1, h2, h3, h4, h5⟩ | ⟨h1, h2, h3, h4, h5⟩ | ⟨h1, h2, h3, h4, h5⟩ | ⟨h1, ⟨a, haa, hk, hnm, hne, hnd, hin⟩, h4, h5⟩ | ⟨h1, ⟨a, haa, hk, hnm, hl1, hl2, hl3⟩, h3⟩
  ·subst h2 h3; exact ⟨by decide, by simp, by simp⟩
  ·subst h2 h3; exact ⟨by decide, by simp, by simp⟩
  ·subst h3
   refine ⟨?_, by simp, by simp⟩
   rcases h2 with h2 | ⟨a, haa, _, h2⟩
   ·exact hn _ h2
   have := hat a haa
   simp only [Bool.and_eq_true, decide_eq_true_eq] at this
   rw [h2]; exact this.1
  ·have hq := hat a haa
   simp only [Bool.and_eq_true, decide_eq_true_eq, List.all_eq_true] at hq
   exact ⟨by rw [hnm]; exact hq.1, Nat.le_trans (List.Nodup.length_le_of_subset hnd (fun x hx => hin x hx)) hq.2.1, fun x hx => hq.2.2 x (hin x hx)⟩
  have hq := hat a haa
  simp only [Bool.and_eq_true, decide_eq_true_eq] at hq
  subst h3
  exact ⟨by rw [hnm]; exact hq.1, by simp, by simp⟩
 obtain ⟨k1, k2, k3⟩ := key
 have hb := bndS_pos d
 refine ⟨?_, ?_, ?_, ?_⟩
 ·unfold Ex.fits; exact ⟨by omega, fun x hx => by have := k3 x hx; omega, by unfold fitsAll; trivial⟩
 ·unfold Ex.few; exact ⟨by omega, by unfold fewAll; trivial⟩
 ·simp [Ex.size, sizes]; omega
 unfold bareE; simp [bareL]
theorem made_okay {attrs : List Attr} (hs : attrs ∈ schemas) {names : ZB} (hn : ∀ x ∈ names, x.size <= 1000) : (d : Nat) -> (e : Ex) -> MadeE attrs names d e -> MadeOk d e
 | 0, e, h => h.elim
 | d + 1, e, h => by
  rcases h with h | ⟨hl, h1, h2, h3, h4, h⟩
  ·exact atom_okay hs hn h d
  have ih := fun x hx => made_okay hs hn d x (h x hx)
  have hne : e.args ≠ [] := by intro e0; rw [e0] at hl; simp at hl
  obtain ⟨d, rfl⟩ : ∃ k, d = k + 1 := by
   cases d with
   | succ k => exact ⟨k, rfl⟩
   | zero =>
    obtain ⟨x, hx⟩ := List.exists_mem_of_ne_nil _ hne
    exact (h x hx).elim
  have h3l : e.args.length <= 3 := by omega
  have hop : e.op ≠ 3 := by omega
  clear hl
  obtain ⟨op, name, words, lo, hi, args⟩ := e
  simp only [Ex.args, Ex.name, Ex.words, Ex.op] at *
  subst h1 h2
  refine ⟨?_, ?_, ?_, ?_⟩
  ·unfold Ex.fits; exact ⟨by show (0 : Nat) <= _; omega, by simp, fitsAll_of _ fun x hx => (ih x hx).fits⟩
  ·unfold Ex.few; exact ⟨by simp, fewAll_of _ fun x hx => (ih x hx).few⟩
  ·have := sizes_of args fun x hx => (ih x hx).size
   have h5 : args.length * bndS (d + 1) <= 3 * bndS (d + 1) := Nat.mul_le_mul_right _ h3l
   simp only [Ex.size, bndS]; omega
  unfold bareE; rw [bareL_of _ fun x hx => (ih x hx).bare]; simp [hop]
def GrG (wr W : World) : Prop := Ext wr W
def GrE (_ : Nat) (W W' : World) : Prop := Ext W W'
def GrP (R : Nat -> Value -> World -> Prop) (j : Nat) (u : Value) (W : World) : Prop := R j u W
theorem wpOp_lastG {P : Program} {ops : Array Oper} {Q : Exit -> Act -> World -> Prop} {a : Act} {w : World} {i : Nat} {o : Oper} (ho : ops[i]? = some o) (h : wpList P ops Q [o] a w) : wpOp P ops Q i (fun a w => Q .normal a w) a w := by
 unfold wpOp
 rw [ho]
 exact h
open Go.RowKit
theorem wpList_append_at {t e : TypeId} {z : Value} {size bytes : Nat} (E : ElemT t e z size bytes) {ops : Array Oper} {rest : List Oper} {o : Oper} {a : Act} {Q : Exit -> Act -> World -> Prop} {X : World} {arr : Array Value} {tt : TypeId}
  (hgd : o.guard = none) (s x : Operand) (ho : o.op = .call { callee := .builtin .append, args := #[s, x], argTypes := #[t, t] }) (base : Nat) (v : Value) (n : Nat) (xs : List Value) (hs : a.eval s = v) (hown : X.ownsRow base e size v n xs)
  (B m c : Nat) (hx : a.eval x = .slice (some ⟨B, 0, none⟩) m c) (hB : B = X.heap.size) (hl : arr.size = m * size) (h1 : ∀ u ∈ arr.toList, u.oneCell' = true) (hm : n + m <= maxLen) (hb : (n + m) * bytes <= 140737488355328) (hbase : base <= X.heap.size)
  (h : ∀ v' w', w'.ownsRow base e size v' (n + m) (xs ++ arr.toList) -> Chg (rowOf v) X w' -> (∀ k, v'.ownBlock = some k -> v.ownBlock = some k \/ X.heap.size <= k) -> wpList Tryz.prog ops Q rest (a.put o.dst v') w') : wpList Tryz.prog ops Q (o :: rest) a (X.alloc (.cells arr tt)) := by
 subst hB
 obtain ⟨i, hi, hz, hsz, hby⟩ := info_parts E.info
 refine wpList_append_own_at (w := X.alloc (.cells arr tt)) hgd s x t ho base e i z size bytes E.ht hi hz hsz hby E.hzs E.hsz v n xs hs (hown.alloc _) ⟨X.heap.size, 0, none⟩ m c arr.toList hx (by simpa using hl) ?_ h1 hm hb (by simp; omega) ?_
 ·intro j u hu
  have : (⟨X.heap.size, 0, none⟩ : Addr).add j = ⟨X.heap.size, j, none⟩ := by unfold Addr.add; split <;> simp_all
  rw [this, World.cell?_alloc_at _ _ _ _ rfl]
  simpa using hu
 intro v' w' h2 h3 _ h5
 refine h v' w' h2 ((((Ext.refl X).alloc _).chg _).trans (grown_chg h3) fun x hx => Or.inl hx) fun k hk => ?_
 rcases h5 with e | e
 ·exact Or.inl (e ▸ hk)
 rw [e] at hk; simp at hk; exact Or.inr (by omega)
theorem Chg.weak {N M : ZN} {w w' : World} (h : Chg N w w') (hs : ∀ x ∈ N, x ∈ M) : Chg M w w' := ⟨h.os, h.tape, h.output, h.size, fun k hk hn => h.block k hk fun hm => hn (hs k hm)⟩
theorem owns_formG {w : World} {base : Nat} {e : TypeId} {size : Nat} {v : Value} {n : Nat} {xs : List Value} (h : w.ownsRow base e size v n xs) : ∃ a c, v = .slice a n c := by
 rcases h.2 with ⟨rfl, rfl⟩ | ⟨g, cap, cur, rfl, _⟩
 ·exact ⟨none, 0, rfl⟩
 exact ⟨_, cap, rfl⟩
def IsWb (w : World) (x : Wb) (v : WbV) : Prop := v.name = x.name /\ IsEx w x.cond v.x.val /\ v.nu = x.unl.length /\ v.nu <= v.cu /\ OkAddr v.au v.cu /\ WbsD w x.unl v.au
theorem IsWb.mono {w w' : World} {x : Wb} {v : WbV} (h : IsWb w x v) (hs : Sub w w') : IsWb w' x v := ⟨h.1, h.2.1.mono hs, h.2.2.1, h.2.2.2.1, h.2.2.2.2.1, WbsD.mono hs _ _ h.2.2.2.2.2⟩
def WbsR (w : World) (l : List Wb) (vs : List WbV) : Prop := l.length = vs.length /\ ∀ i (h1 : i < l.length) (h2 : i < vs.length), IsWb w l[i] vs[i]
theorem WbsR.mono {w w' : World} {l : List Wb} {vs : List WbV} (h : WbsR w l vs) (hs : Sub w w') : WbsR w' l vs := ⟨h.1, fun i h1 h2 => (h.2 i h1 h2).mono hs⟩
theorem WbsR.nil (w : World) : WbsR w [] [] := ⟨rfl, fun i h => by simp at h⟩
theorem WbsR.snoc {w : World} {l : List Wb} {vs : List WbV} {c : Wb} {v : WbV} (h : WbsR w l vs) (hc : IsWb w c v) : WbsR w (l ++ [c]) (vs ++ [v]) := by
 refine ⟨by simp [h.1], fun i h1 h2 => ?_⟩
 by_cases hi : i < l.length
 ·have hi2 : i < vs.length := by rw [<- h.1]; exact hi
  simp only [List.getElem_append_left hi, List.getElem_append_left hi2]
  exact h.2 i hi hi2
 have e1 : i = l.length := by simp at h1; omega
 subst e1
 simp only [List.getElem_append_right (Nat.le_refl _), List.getElem_append_right (show vs.length <= l.length by rw [h.1]; exact Nat.le_refl _), Nat.sub_self, List.getElem_cons_zero]
 simpa [h.1] using hc
theorem elemWb : ElemT 46 53 (.agg #[.string ⟨#[]⟩, .int .i64 0, .string ⟨#[]⟩, .slice none 0 0, .int .i64 0, .int .i64 0, .slice none 0 0, .slice none 0 0]) 8 128 := ⟨by kernel_rfl, by kernel_rfl, rfl, by decide⟩
theorem wbs_owns {w : World} {M : ZN} {base : Nat} {v : Value} {l : List Wb} {vs : List WbV} (h : w.ownsRow base 53 8 v l.length (vs.flatMap WbV.cells)) (hM : ∀ k, v.ownBlock = some k -> k ∉ M) (hR : WbsR (mask w M) l vs) :
  ∃ a c, v = .slice a l.length c /\ l.length <= c /\ OkAddr a c /\ WbsD (mask w M) l a := by
 rw [hR.1] at h
 obtain ⟨a, c, rfl, hr⟩ := IsRows.of_owns WbV.len h
 refine ⟨a, c, by rw [hR.1], by rw [hR.1]; exact hr.2.1, hr.2.2.1, ?_⟩
 match l, hR with
 | [], _ => unfold WbsD; trivial
 | e :: r, hR =>
  obtain ⟨b, off, rfl, h1⟩ := hr.2.2.2 0 (by rw [<- hR.1]; simp)
  refine WbsD.of (e :: r) off vs hR.1 fun i h3 h4 => ?_
  obtain ⟨q1, q2, q3, q4, q5, q6⟩ := hR.2 i h3 h4
  refine ⟨q1, fun j hj => ?_, q2, q3, q4, q5, q6⟩
  obtain ⟨b', off', e1, h5⟩ := hr.2.2.2 i h4
  simp only [Option.some.injEq, Addr.mk.injEq, and_true] at e1
  obtain ⟨rfl, rfl⟩ := e1
  rw [mask_cell, if_neg (hM _ rfl), h5 j hj]
theorem wbOk_snoc : (l : List Wb) -> (n : BA) -> (c : Ex) -> (u : List Wb) -> wbOk l -> n.size <= 1000000000000000 -> c.fits -> c.few -> c.size <= 1000000000000000 -> wbOk u -> wbOk (l ++ [.mk n c u])
 | [], n, c, u, _, h1, h2, h3, h4, h5 => by simp only [List.nil_append, wbOk]; exact ⟨h1, h2, h3, h4, h5, trivial⟩
 | .mk n' c' u' :: r, n, c, u, h, h1, h2, h3, h4, h5 => by
  rw [wbOk] at h
  rw [List.cons_append, wbOk]
  exact ⟨h.1, h.2.1, h.2.2.1, h.2.2.2.1, h.2.2.2.2.1, wbOk_snoc r n c u h.2.2.2.2.2 h1 h2 h3 h4 h5⟩
theorem wbN_snoc : (l : List Wb) -> (n : BA) -> (c : Ex) -> (u : List Wb) -> wbN (l ++ [.mk n c u]) = wbN l + 1 + wbN u
 | [], n, c, u => by simp [wbN]
 | .mk n' c' u' :: r, n, c, u => by rw [List.cons_append, wbN, wbN, wbN_snoc r n c u]; omega
def bndB : Nat -> Nat | 0 => 0 | d + 1 => 2 * (1 + bndB d)
def BacksQ (d : Nat) (w0 : World) (bd : Nat) (M : ZN) (w : World) (e : Ending) (w' : World) : Prop := ∃ l a n c, e = .returned (.slice a n c) /\ n = l.length /\ n <= c /\ OkAddr a c /\ WbsD (mask w' M) l a /\ wbOk l /\ wbN l <= bndB d /\ DeckAt w0 w' bd /\ Chg [bd] w w'
def GnG (w0 wr : World) (bd : Nat) (W : World) : Prop := DeckAt w0 W bd /\ Chg [bd] wr W
def GnE (bd : Nat) (_ : Nat) (W W' : World) : Prop := Chg [bd] W W'
def GnB (bd q : Nat) (N : ZN) (k : Nat) (W W' : World) : Prop := Chg (if k = q then bd :: N else [bd]) W W'
def GnL (w0 wr : World) (bd q : Nat) (N : ZN) (L : ZN) (W : World) : Prop := DeckAt w0 W bd /\ Chg (bd :: N) wr W /\ (q ∉ L -> Chg [bd] wr W)
theorem gnl {w0 wr W W' : World} {bd q : Nat} {N L : ZN} (h : DeckAt w0 W bd /\ Chg [bd] wr W) (hd : DeckAt w0 W' bd) (hc : Chg [bd] W W') : GnL w0 wr bd q N L W' :=
 ⟨hd, (h.2.then hc).weak (fun y hy => by simp at hy; simp [hy]), fun _ => h.2.then hc⟩
theorem mask_step {W W' : World} {bd : Nat} {N : ZN} (h : Chg [bd] W W') (hb : bd ∈ N) : Sub (mask W N) (mask W' N) := mask_sub_mask fun k hk hn => ⟨hn, h.block k hk fun hm => hn (by simp only [List.mem_singleton] at hm; rw [hm]; exact hb)⟩
def BkL (w0 w : World) (d bd bw : Nat) (M : ZN) (sa : OA) (sn sc : Nat) (v k : Value) (wr : World) : Prop := ∃ (l : List Wb) (vs : List WbV) (q : Int), k = .int .i64 q /\ q + l.length <= 2 /\ 0 <= q /\ wr.ownsRow (bw + 1) 53 8 v l.length (vs.flatMap WbV.cells) /\ WbsR (mask wr (bd :: rowOf v ++ M)) l vs /\
 wbOk l /\ wbN l <= l.length * (1 + bndB d) /\ DeckAt w0 wr bd /\ Chg [bd] w wr /\ wr.heap[bw]? = some (.cells #[.slice sa sn sc] 24 (0, 0))
def nmsO : Obj := .cells #[.string ⟨#[119]⟩, .string ⟨#[120]⟩, .string ⟨#[121]⟩] 9 (0, 0)
def WbGood (d : Nat) (x : Wb) : Prop := x.name.size <= 1000000000000000 /\ x.cond.fits /\ x.cond.few /\ x.cond.size <= 1000000000000000 /\ wbOk x.unl /\ wbN x.unl <= bndB d
theorem DeckAt.lt {w0 w : World} {bd : Nat} (h : DeckAt w0 w bd) : bd < w.heap.size := by obtain ⟨_, _, _, _, hb, _⟩ := h; exact blk_lt hb
def bk5R (d bd bw : Nat) (M N : ZN) (l : List Wb) (ws : List WbV) (sa : OA) (sn sc : Nat) (an : OA) (nn cn : Nat) (va : OA) (vc : Nat) : Nat -> Value -> World -> Prop
 | 0, u, _ => u = .slice va l.length vc
 | 1, u, W => ∃ (g : Nat), u = .slice (some ⟨g, 0, none⟩) 3 3 /\ (W.heap[g]? = some nmsO /\ g ≠ bd)
 | 2, u, _ => u = .pointer (some ⟨bd, 0, none⟩)
 | 3, u, _ => ∃ (r : Nat), u = .int .i64 ((r : Nat) : Int) /\ r < 3
 | 4, u, W => ∃ (g : Nat) (r : Nat), u = .pointer (some ⟨g, r, none⟩) /\ (W.heap[g]? = some nmsO /\ g ≠ bd /\ r < 3)
 | 5, u, _ => ∃ (s : BA), u = .string s /\ s.size <= 1
 | 6, u, _ => u = .pointer (some ⟨bd, 0, none⟩)
 | 7, u, _ => u = .agg #[.slice sa sn sc]
 | 8, u, _ => u = .slice an nn cn
 | 9, u, W => ∃ (x : Ex) (xv : ExV), u = ExV.val xv /\ (MadeOk 2 x /\ IsEx (mask W N) x (ExV.val xv))
 | 10, u, _ => u = .pointer (some ⟨bd, 0, none⟩)
 | 11, u, _ => u = .agg #[.slice sa sn sc]
 | 12, u, _ => u = .slice an nn cn
 | 13, u, _ => u = .int .i64 ((d : Int) + 1)
 | 14, u, _ => u = .int .i64 d
 | 15, u, W => ∃ (bl : List Wb) (ba : OA) (bn : Nat) (bc : Nat), u = .slice ba bn bc /\ (bn = bl.length /\ bn <= bc /\ OkAddr ba bc /\ WbsD (mask W N) bl ba /\ wbOk bl /\ wbN bl <= bndB d)
 | 16, u, W => ∃ (x : Wb) (wv : WbV), u = .agg #[.string wv.name, .int .i64 wv.x.op, .string wv.x.name, .slice wv.x.aw wv.x.nw wv.x.cw, .int .i64 wv.x.lo, .int .i64 wv.x.hi, .slice wv.x.aa wv.x.na wv.x.ca, .slice wv.au wv.nu wv.cu] /\ (IsWb (mask W N) x wv /\ WbGood d x)
 | 17, u, W => ∃ (x : Wb) (wv : WbV) (g : Nat), u = .slice (some ⟨g, 0, none⟩) 1 1 /\ (W.heap[g]? = some (.cells wv.cells.toArray 53 (0, 0)) /\ g ≠ bd /\ IsWb (mask W N) x wv /\ WbGood d x)
 | _, u, W => ∃ (x : Wb) (wv : WbV) (v2 : Value), u = v2 /\ (W.ownsRow (bw + 1) 53 8 v2 (l.length + 1) (ws.flatMap WbV.cells ++ wv.cells) /\ WbsR (mask W (bd :: rowOf v2 ++ M)) (l ++ [x]) (ws ++ [wv]) /\ WbGood d x)
theorem backs_calls {attrs : List Attr} (hat : attrs ∈ schemas) (names : ZB) (hok : ∀ a ∈ attrs, OkAttr a) (hne : attrs ≠ []) (hl : attrs.length <= 1000) (hnl : names.length <= 1000) (hns : ∀ x ∈ names, x.size <= 1000) : ∀ (d : Nat), d <= 10 -> ∀ {w0 w : World} {bd : Nat} (_ : DeckAt w0 w bd) (sa : OA) (sn sc : Nat) (an : OA) (nn cn : Nat) (M : ZN) (_ : IsSchema (mask w [bd]) attrs (.agg #[.slice sa sn sc])) (_ : IsStrs (mask w [bd]) names an nn cn) (_ : ∀ y ∈ M, y < w.heap.size),
  Calls Tryz.prog 41 #[.pointer (some ⟨bd, 0, none⟩), .agg #[.slice sa sn sc], .slice an nn cn, .int .i64 (d : Nat)] w (BacksQ d w0 bd M w) := by
 intro d
 induction d with
 | zero =>
  intro _ w0 w bd hd sa sn sc an nn cn M hs hn hM
  have HD := hI (hd.ext ((Ext.refl w).alloc (.cells #[.slice sa sn sc] 24)))
  clear hd hs hn
  go_enter Tryz.func41, Tryz.ntmps41
  go_wp2_with fail
  refine (next_calls HD.out 3 (by omega) (by omega)).mono ?_
  rintro e w1 ⟨z, rfl, hz0, hz1, hd1, hc1⟩
  have HD1 := hI hd1
  have HC1 := hI ((((Ext.refl w).alloc (.cells #[.slice sa sn sc] 24)).chg [bd]).then hc1)
  clear hd1 hc1
  go_wp2_with fail
  go_loopw [9, 10] (fun v k wr => v = .slice none 0 0 /\ k = .int .i64 z /\ wr = w1) (fun _ k _ => (intOf k).toNat)
  case atStart => exact ⟨rfl, rfl, rfl⟩
  case round =>
   obtain ⟨rfl, rfl, rfl⟩ := hrel
   by_cases hq : 0 < z
   ·have t14 : decide (0 < z) = true := decide_eq_true hq
    go_wp2_with fail
    go_ret
    exact ⟨[], none, 0, 0, rfl, rfl, Nat.le_refl _, Or.inl ⟨rfl, rfl⟩, by unfold WbsD; trivial, by unfold wbOk; trivial, by simp [wbN], HD1.out, HC1.out⟩
   have t14 : decide (0 < z) = false := decide_eq_false hq
   go_wp2_with fail
   go_ret
   exact ⟨[], none, 0, 0, rfl, rfl, Nat.le_refl _, Or.inl ⟨rfl, rfl⟩, by unfold WbsD; trivial, by unfold wbOk; trivial, by simp [wbN], HD1.out, HC1.out⟩
 | succ d ih =>
  intro hd10 w0 w bd hd sa sn sc an nn cn M hs hn hM
  have hbw := hd.lt
  have hb0 : w0.heap.size <= bd := by obtain ⟨_, _, _, _, _, _, _, _, _, h⟩ := hd; exact h
  have HB0 := hI (show w0.heap.size <= w.heap.size + 1 by omega)
  have HBW := hI hbw
  have HD := hI (hd.ext ((Ext.refl w).alloc (.cells #[.slice sa sn sc] 24)))
  have HS := hI hs
  have HN := hI hn
  have HM := hI hM
  have IH := Lib.hid @ih
  have HOKK := hI hok
  have HB1 := hI (alloc_new w (.cells #[.slice sa sn sc] 24))
  clear hd hs hn hM ih hok hbw hb0
  go_enter Tryz.func41, Tryz.ntmps41
  go_wp2_with fail
  refine (next_calls HD.out 3 (by omega) (by omega)).mono ?_
  rintro e w1 ⟨z, rfl, hz0, hz1, hd1, hc1⟩
  have HD1 := hI hd1
  have HC1 := hI ((((Ext.refl w).alloc (.cells #[.slice sa sn sc] 24)).chg [bd]).then hc1)
  have HB2 := hI (hc1.blk HB1.out (by have := HBW.out; simp; omega))
  obtain ⟨bw, hbw⟩ : ∃ bw, bw = w.heap.size := ⟨_, rfl⟩
  have HBE := hI hbw
  rw [<- hbw] at HB2 HB0 HBW HM ⊢
  clear hd1 hc1 HB1 HD hbw
  go_wp2_with fail
  go_loopw [9, 10] (BkL w0 w d bd bw M sa sn sc) (fun _ k _ => (intOf k).toNat)
  case atStart => exact ⟨[], [], z, rfl, by simp; omega, hz0, World.ownsRow_nil _ _ _ _, WbsR.nil _, by unfold wbOk; trivial, by simp [wbN], HD1.out, HC1.out, HB2.out⟩
  case round =>
   obtain ⟨l, ws, q, rfl, hq2, hq0, hown, hwr, hok, hwn, hdk, hcg, hbx⟩ := hrel
   obtain ⟨va, vc, hv⟩ := owns_formG hown
   subst hv
   have HOW := hI hown
   have HWL := hI hwr
   have HWO := hI hok
   have HWN := hI hwn
   have HDK := hI hdk
   have HCG := hI hcg
   have HBX := hI hbx
   have HSZ := hI (show bw + 1 <= wr.heap.size from blk_lt hbx)
   clear hown hwr hok hwn hdk hcg hbx HD1 HC1 HB2
   by_cases hq : 0 < q
   ·have t14 : decide (0 < q) = true := decide_eq_true hq
    have t17 : decide ((0 : Int) < (d : Int) + 1) = true := decide_eq_true (by omega)
    have hl2 : l.length <= 2 := by omega
    obtain ⟨N, hN⟩ : ∃ N, N = bd :: rowOf (.slice va l.length vc) ++ M := ⟨_, rfl⟩
    have HNN := hI (show bd ∈ N by rw [hN]; simp)
    have HNL := hI (show ∀ y ∈ N, y < wr.heap.size by
     intro y hy
     rw [hN] at hy
     simp only [List.cons_append, List.mem_cons, List.mem_append] at hy
     have := HSZ.out; have := HBW.out
     rcases hy with rfl | hy | hy
     ·omega
     ·exact (HOW.out.lt y (mem_rowOf.1 hy)).2
     have := HM.out y hy; omega)
    have HWR := hI (show ∀ W, Chg [bd] wr W -> WbsR (mask W N) l ws from fun W hW => by rw [hN]; exact HWL.out.mono (mask_step hW (by simp)))
    have HKP := hI (show ∀ W w2 g2 cap, Chg [bd] wr W -> Chg (rowOf (.slice va l.length vc)) W w2 -> ((Value.slice va l.length vc).ownBlock = some g2 \/ g2 = W.heap.size) -> Sub (mask W N) (mask w2 (bd :: rowOf (.slice (some ⟨g2, 0, none⟩) (l.length + 1) cap) ++ M)) from fun W w2 g2 cap hW hc hg => by
     rw [hN]
     refine mask_sub_mask fun k hk hn => ⟨fun hm => ?_, hc.block k hk fun hm => hn (by simp [hm])⟩
     simp only [List.cons_append, List.mem_cons, List.mem_append] at hm hn
     rcases hm with h | h | h
     ·exact hn (Or.inl h)
     ·have h2 := mem_rowOf.1 h
      simp only [Value.ownBlock, Option.some.injEq] at h2
      rcases hg with e | e
      ·exact hn (Or.inr (Or.inl (mem_rowOf.2 (by rw [e, h2]))))
      omega
     exact hn (Or.inr (Or.inr h)))
    have HDX := hI (show ∀ W, DeckAt w0 W bd -> Chg [bd] wr W -> Calls Tryz.prog 40 #[.pointer (some ⟨bd, 0, none⟩), .agg #[.slice sa sn sc], .slice an nn cn, .int .i64 2] W (MadeQ (MadeOk 2) w0 bd N W) from fun W hd hW =>
     (dexpr_calls attrs names HOKK.out hne hl hnl 1 (by omega) hd sa sn sc an nn cn N (HS.out.mono (mask_step (HCG.out.then hW) (by simp))) (HN.out.mono (mask_step (HCG.out.then hW) (by simp))) (fun y hy => Nat.lt_of_lt_of_le (HNL.out y hy) hW.size)).mono fun e w' h => h.mono fun x hx => made_okay hat hns 2 x hx)
    have HIH := hI (show ∀ W, DeckAt w0 W bd -> Chg [bd] wr W -> Calls Tryz.prog 41 #[.pointer (some ⟨bd, 0, none⟩), .agg #[.slice sa sn sc], .slice an nn cn, .int .i64 (d : Nat)] W (BacksQ d w0 bd N W) from fun W hd hW =>
     IH.out (by omega) hd sa sn sc an nn cn N (HS.out.mono (mask_step (HCG.out.then hW) (by simp))) (HN.out.mono (mask_step (HCG.out.then hW) (by simp))) (fun y hy => Nat.lt_of_lt_of_le (HNL.out y hy) hW.size))
    clear hN
    go_upto_region 5 with fail
    refine wp_region_growL (m := 19) [18] (GnL w0 wr bd 18 (rowOf (.slice va l.length vc))) (GnB bd 18 (rowOf (.slice va l.length vc))) (GrP (bk5R d bd bw M N l ws sa sn sc an nn cn va vc)) (by kernel_rfl) (by kernel_rfl) ⟨HDK.out.ext ((Ext.refl wr).drew), ((Ext.refl wr).drew).chg _, fun _ => ((Ext.refl wr).drew).chg _⟩ ?_ ?_ ?_
    ·intro i k v W W' hi hk hne hout h hE
     have hi' := ltc19 hi
     clear hi hk
     by_cases hk : k = 18
     ·subst hk
      exfalso
      rcases hi' with rfl | rfl | rfl | rfl | rfl | rfl | rfl | rfl | rfl | rfl | rfl | rfl | rfl | rfl | rfl | rfl | rfl | rfl | rfl
      ·exact absurd hout (by decide +kernel)
      ·exact absurd hout (by decide +kernel)
      ·exact absurd hout (by decide +kernel)
      ·exact absurd hout (by decide +kernel)
      ·exact absurd hout (by decide +kernel)
      ·exact absurd hout (by decide +kernel)
      ·exact absurd hout (by decide +kernel)
      ·exact absurd hout (by decide +kernel)
      ·exact absurd hout (by decide +kernel)
      ·exact absurd hout (by decide +kernel)
      ·exact absurd hout (by decide +kernel)
      ·exact absurd hout (by decide +kernel)
      ·exact absurd hout (by decide +kernel)
      ·exact absurd hout (by decide +kernel)
      ·exact absurd hout (by decide +kernel)
      ·exact absurd hout (by decide +kernel)
      ·exact absurd hout (by decide +kernel)
      ·exact absurd hout (by decide +kernel)
      exact hne rfl
     have hE : Chg [bd] W W' := (by have h9 := hE; unfold GnB at h9; rwa [if_neg hk] at h9)
     rcases hi' with rfl | rfl | rfl | rfl | rfl | rfl | rfl | rfl | rfl | rfl | rfl | rfl | rfl | rfl | rfl | rfl | rfl | rfl | rfl
     ·exact h
     ·obtain ⟨g, e0, h⟩ := h
      exact ⟨g, e0, ⟨hE.blk h.1 (by simpa using h.2), h.2⟩⟩
     ·exact h
     ·obtain ⟨r, e0, h⟩ := h
      exact ⟨r, e0, h⟩
     ·obtain ⟨g, r, e0, h⟩ := h
      exact ⟨g, r, e0, ⟨hE.blk h.1 (by simpa using h.2.1), h.2⟩⟩
     ·obtain ⟨s, e0, h⟩ := h
      exact ⟨s, e0, h⟩
     ·exact h
     ·exact h
     ·exact h
     ·obtain ⟨x, xv, e0, h⟩ := h
      exact ⟨x, xv, e0, ⟨h.1, h.2.mono (mask_step hE HNN.out)⟩⟩
     ·exact h
     ·exact h
     ·exact h
     ·exact h
     ·exact h
     ·obtain ⟨bl, ba, bn, bc, e0, h⟩ := h
      exact ⟨bl, ba, bn, bc, e0, ⟨h.1, h.2.1, h.2.2.1, WbsD.mono (mask_step hE HNN.out) _ _ h.2.2.2.1, h.2.2.2.2⟩⟩
     ·obtain ⟨x, wv, e0, h⟩ := h
      exact ⟨x, wv, e0, ⟨h.1.mono (mask_step hE HNN.out), h.2⟩⟩
     ·obtain ⟨x, wv, g, e0, h⟩ := h
      exact ⟨x, wv, g, e0, ⟨hE.blk h.1 (by simpa using h.2.1), h.2.1, h.2.2.1.mono (mask_step hE HNN.out), h.2.2.2⟩⟩
     obtain ⟨x, wv, v2, e0, h⟩ := h
     exact ⟨x, wv, v2, e0, ⟨owns_chg h.1 hE (fun q hq hm => by simp only [List.mem_singleton] at hm; have := (h.1.lt q hq).1; have := HBW.out; omega), h.2.1.mono (mask_step hE (by simp)), h.2.2⟩⟩
    ·intro q op hq ho L vs W hqL hcL hW hd ρ hρ
     have hq' := ltc19 hq
     clear hq
     have o9 : ρ (.tmp 9) = .slice va l.length vc := hρ.out 9 rfl
     have o0 : ρ (.tmp 0) = .pointer (some ⟨bd, 0, none⟩) := hρ.out 0 rfl
     have i2 := hρ.i 2 23
     have i1 := hρ.i 1 22
     have i3 := hρ.i 3 24
     have i4 := hρ.i 4 25
     have o5 : ρ (.tmp 5) = .pointer (some ⟨bw, 0, none⟩) := hρ.out 5 rfl
     have o2 : ρ (.tmp 2) = .slice an nn cn := hρ.out 2 rfl
     have i6 := hρ.i 6 27
     have i7 := hρ.i 7 28
     have i8 := hρ.i 8 29
     have o3 : ρ (.tmp 3) = .int .i64 ((d : Int) + 1) := hρ.out 3 rfl
     have i13 := hρ.i 13 34
     have i10 := hρ.i 10 31
     have i11 := hρ.i 11 32
     have i12 := hρ.i 12 33
     have i14 := hρ.i 14 35
     have i5 := hρ.i 5 26
     have i9 := hρ.i 9 30
     have i15 := hρ.i 15 36
     have i16 := hρ.i 16 37
     have i0 := hρ.i 0 21
     have i17 := hρ.i 17 38
     have hc := hρ.const
     have hfn := hρ.func
     clear hρ
     rcases hq' with rfl | rfl | rfl | rfl | rfl | rfl | rfl | rfl | rfl | rfl | rfl | rfl | rfl | rfl | rfl | rfl | rfl | rfl | rfl
     ·have hnq : 18 ∉ L := fun h => absurd (hcL 18 h) (by decide +kernel)
      have HW := hI (show DeckAt w0 W bd /\ Chg [bd] wr W from ⟨hW.1, hW.2.2 hnq⟩)
      clear hW hqL hcL
      have HNQ := hI hnq
      clear hnq
      cases ho
      clear hd
      unfold GivesOp
      go_simp
      exact ⟨Chg.refl _ _, gnl HW.out HW.out.1 (Chg.refl _ _), rfl⟩
     ·have hnq : 18 ∉ L := fun h => absurd (hcL 18 h) (by decide +kernel)
      have HW := hI (show DeckAt w0 W bd /\ Chg [bd] wr W from ⟨hW.1, hW.2.2 hnq⟩)
      clear hW hqL hcL
      have HNQ := hI hnq
      clear hnq
      cases ho
      clear hd
      unfold GivesOp
      go_simp
      exact ⟨((Ext.refl W).alloc _).chg _, gnl HW.out (HW.out.1.ext ((Ext.refl W).alloc _)) (((Ext.refl W).alloc _).chg [bd]), W.heap.size, rfl, alloc_new W _, by have := HW.out.1.lt; omega⟩
     ·have hnq : 18 ∉ L := fun h => absurd (hcL 18 h) (by decide +kernel)
      have HW := hI (show DeckAt w0 W bd /\ Chg [bd] wr W from ⟨hW.1, hW.2.2 hnq⟩)
      clear hW hqL hcL
      have HNQ := hI hnq
      clear hnq
      cases ho
      clear hd
      unfold GivesOp
      go_simp
      exact ⟨Chg.refl _ _, gnl HW.out HW.out.1 (Chg.refl _ _), rfl⟩
     ·have hnq : 18 ∉ L := fun h => absurd (hcL 18 h) (by decide +kernel)
      have HW := hI (show DeckAt w0 W bd /\ Chg [bd] wr W from ⟨hW.1, hW.2.2 hnq⟩)
      clear hW hqL hcL
      have HNQ := hI hnq
      clear hnq
      cases ho
      have h2 : vs 2 = _ := hd ⟨2, .data⟩ (by simp) rfl
      rw [h2] at i2
      clear hd
      unfold GivesOp
      go_simp
      refine (next_calls HW.out.1 3 (by omega) (by omega)).mono ?_
      rintro e5 w5 ⟨z, rfl, hz0, hz1, hd5, hc5⟩
      obtain ⟨r, rfl⟩ : ∃ r : Nat, z = r := ⟨z.toNat, by omega⟩
      exact ⟨_, rfl, hc5, gnl HW.out hd5 hc5, r, rfl, by omega⟩
     ·have hnq : 18 ∉ L := fun h => absurd (hcL 18 h) (by decide +kernel)
      have HW := hI (show DeckAt w0 W bd /\ Chg [bd] wr W from ⟨hW.1, hW.2.2 hnq⟩)
      clear hW hqL hcL
      have HNQ := hI hnq
      clear hnq
      cases ho
      obtain ⟨g, h1, hs1⟩ : ∃ (g : Nat), vs 1 = .slice (some ⟨g, 0, none⟩) 3 3 /\ (W.heap[g]? = some nmsO /\ g ≠ bd) := hd ⟨1, .data⟩ (by simp) rfl
      have HS1 := hI hs1
      clear hs1
      rw [h1] at i1
      obtain ⟨r, h3, hs3⟩ : ∃ (r : Nat), vs 3 = .int .i64 ((r : Nat) : Int) /\ r < 3 := hd ⟨3, .data⟩ (by simp) rfl
      have HS3 := hI hs3
      clear hs3
      rw [h3] at i3
      clear hd
      have b0 : (0 : Int) <= ((r : Nat) : Int) := by omega
      have b1 : ((r : Nat) : Int) < 3 := by have := HS3.out; omega
      unfold GivesOp
      go_simp
      exact ⟨Chg.refl _ _, gnl HW.out HW.out.1 (Chg.refl _ _), g, r, rfl, HS1.out.1, HS1.out.2, HS3.out⟩
     ·have hnq : 18 ∉ L := fun h => absurd (hcL 18 h) (by decide +kernel)
      have HW := hI (show DeckAt w0 W bd /\ Chg [bd] wr W from ⟨hW.1, hW.2.2 hnq⟩)
      clear hW hqL hcL
      have HNQ := hI hnq
      clear hnq
      cases ho
      obtain ⟨g, r, h4, hs4⟩ : ∃ (g : Nat) (r : Nat), vs 4 = .pointer (some ⟨g, r, none⟩) /\ (W.heap[g]? = some nmsO /\ g ≠ bd /\ r < 3) := hd ⟨4, .data⟩ (by simp) rfl
      have HS4 := hI hs4
      clear hs4
      rw [h4] at i4
      clear hd
      have hr3 : r = 0 \/ r = 1 \/ r = 2 := by have := HS4.out.2.2; omega
      obtain ⟨s, hs, hss⟩ : ∃ s : BA, W.cell? ⟨g, r, none⟩ = some (.string s) /\ s.size <= 1 := by
       rcases hr3 with rfl | rfl | rfl
       ·exact ⟨_, blk_cell HS4.out.1 0, by decide⟩
       ·exact ⟨_, blk_cell HS4.out.1 1, by decide⟩
       exact ⟨_, blk_cell HS4.out.1 2, by decide⟩
      clear hr3
      unfold GivesOp
      go_simp
      exact ⟨Chg.refl _ _, gnl HW.out HW.out.1 (Chg.refl _ _), s, rfl, hss⟩
     ·have hnq : 18 ∉ L := fun h => absurd (hcL 18 h) (by decide +kernel)
      have HW := hI (show DeckAt w0 W bd /\ Chg [bd] wr W from ⟨hW.1, hW.2.2 hnq⟩)
      clear hW hqL hcL
      have HNQ := hI hnq
      clear hnq
      cases ho
      clear hd
      unfold GivesOp
      go_simp
      exact ⟨Chg.refl _ _, gnl HW.out HW.out.1 (Chg.refl _ _), rfl⟩
     ·have hnq : 18 ∉ L := fun h => absurd (hcL 18 h) (by decide +kernel)
      have HW := hI (show DeckAt w0 W bd /\ Chg [bd] wr W from ⟨hW.1, hW.2.2 hnq⟩)
      clear hW hqL hcL
      have HNQ := hI hnq
      clear hnq
      cases ho
      clear hd
      obtain ⟨g7, gf7⟩ := blk1 (HW.out.2.blk HBX.out (by have := HBW.out; simp; omega))
      unfold GivesOp
      go_simp
      exact ⟨Chg.refl _ _, gnl HW.out HW.out.1 (Chg.refl _ _), rfl⟩
     ·have hnq : 18 ∉ L := fun h => absurd (hcL 18 h) (by decide +kernel)
      have HW := hI (show DeckAt w0 W bd /\ Chg [bd] wr W from ⟨hW.1, hW.2.2 hnq⟩)
      clear hW hqL hcL
      have HNQ := hI hnq
      clear hnq
      cases ho
      clear hd
      unfold GivesOp
      go_simp
      exact ⟨Chg.refl _ _, gnl HW.out HW.out.1 (Chg.refl _ _), rfl⟩
     ·have hnq : 18 ∉ L := fun h => absurd (hcL 18 h) (by decide +kernel)
      have HW := hI (show DeckAt w0 W bd /\ Chg [bd] wr W from ⟨hW.1, hW.2.2 hnq⟩)
      clear hW hqL hcL
      have HNQ := hI hnq
      clear hnq
      cases ho
      have h6 : vs 6 = _ := hd ⟨6, .data⟩ (by simp) rfl
      rw [h6] at i6
      have h7 : vs 7 = _ := hd ⟨7, .data⟩ (by simp) rfl
      rw [h7] at i7
      have h8 : vs 8 = _ := hd ⟨8, .data⟩ (by simp) rfl
      rw [h8] at i8
      clear hd
      unfold GivesOp
      go_simp
      refine (HDX.out W HW.out.1 HW.out.2).mono ?_
      rintro e5 w5 ⟨x, xv, rfl, hm5, hi5, hd5, hc5⟩
      exact ⟨_, rfl, hc5, gnl HW.out hd5 hc5, x, xv, rfl, hm5, hi5⟩
     ·have hnq : 18 ∉ L := fun h => absurd (hcL 18 h) (by decide +kernel)
      have HW := hI (show DeckAt w0 W bd /\ Chg [bd] wr W from ⟨hW.1, hW.2.2 hnq⟩)
      clear hW hqL hcL
      have HNQ := hI hnq
      clear hnq
      cases ho
      clear hd
      unfold GivesOp
      go_simp
      exact ⟨Chg.refl _ _, gnl HW.out HW.out.1 (Chg.refl _ _), rfl⟩
     ·have hnq : 18 ∉ L := fun h => absurd (hcL 18 h) (by decide +kernel)
      have HW := hI (show DeckAt w0 W bd /\ Chg [bd] wr W from ⟨hW.1, hW.2.2 hnq⟩)
      clear hW hqL hcL
      have HNQ := hI hnq
      clear hnq
      cases ho
      clear hd
      obtain ⟨g7, gf7⟩ := blk1 (HW.out.2.blk HBX.out (by have := HBW.out; simp; omega))
      unfold GivesOp
      go_simp
      exact ⟨Chg.refl _ _, gnl HW.out HW.out.1 (Chg.refl _ _), rfl⟩
     ·have hnq : 18 ∉ L := fun h => absurd (hcL 18 h) (by decide +kernel)
      have HW := hI (show DeckAt w0 W bd /\ Chg [bd] wr W from ⟨hW.1, hW.2.2 hnq⟩)
      clear hW hqL hcL
      have HNQ := hI hnq
      clear hnq
      cases ho
      clear hd
      unfold GivesOp
      go_simp
      exact ⟨Chg.refl _ _, gnl HW.out HW.out.1 (Chg.refl _ _), rfl⟩
     ·have hnq : 18 ∉ L := fun h => absurd (hcL 18 h) (by decide +kernel)
      have HW := hI (show DeckAt w0 W bd /\ Chg [bd] wr W from ⟨hW.1, hW.2.2 hnq⟩)
      clear hW hqL hcL
      have HNQ := hI hnq
      clear hnq
      cases ho
      clear hd
      unfold GivesOp
      go_simp
      exact ⟨Chg.refl _ _, gnl HW.out HW.out.1 (Chg.refl _ _), rfl⟩
     ·have hnq : 18 ∉ L := fun h => absurd (hcL 18 h) (by decide +kernel)
      have HW := hI (show DeckAt w0 W bd /\ Chg [bd] wr W from ⟨hW.1, hW.2.2 hnq⟩)
      clear hW hqL hcL
      have HNQ := hI hnq
      clear hnq
      cases ho
      have h13 : vs 13 = _ := hd ⟨13, .data⟩ (by simp) rfl
      rw [h13] at i13
      clear hd
      have hwd : IntKind.i64.wrap ((d : Nat) : Int) = ((d : Nat) : Int) := IntWalk.i64_in _ (by omega)
      unfold GivesOp
      go_simp
      try rw [hwd]
      exact ⟨Chg.refl _ _, gnl HW.out HW.out.1 (Chg.refl _ _), rfl⟩
     ·have hnq : 18 ∉ L := fun h => absurd (hcL 18 h) (by decide +kernel)
      have HW := hI (show DeckAt w0 W bd /\ Chg [bd] wr W from ⟨hW.1, hW.2.2 hnq⟩)
      clear hW hqL hcL
      have HNQ := hI hnq
      clear hnq
      cases ho
      have h10 : vs 10 = _ := hd ⟨10, .data⟩ (by simp) rfl
      rw [h10] at i10
      have h11 : vs 11 = _ := hd ⟨11, .data⟩ (by simp) rfl
      rw [h11] at i11
      have h12 : vs 12 = _ := hd ⟨12, .data⟩ (by simp) rfl
      rw [h12] at i12
      have h14 : vs 14 = _ := hd ⟨14, .data⟩ (by simp) rfl
      rw [h14] at i14
      clear hd
      unfold GivesOp
      go_simp
      refine (HIH.out W HW.out.1 HW.out.2).mono ?_
      rintro e5 w5 ⟨bl, ba, bn, bc, rfl, q1, q2, q3, q4, q5, q6, hd5, hc5⟩
      exact ⟨_, rfl, hc5, gnl HW.out hd5 hc5, bl, ba, bn, bc, rfl, q1, q2, q3, q4, q5, q6⟩
     ·have hnq : 18 ∉ L := fun h => absurd (hcL 18 h) (by decide +kernel)
      have HW := hI (show DeckAt w0 W bd /\ Chg [bd] wr W from ⟨hW.1, hW.2.2 hnq⟩)
      clear hW hqL hcL
      have HNQ := hI hnq
      clear hnq
      cases ho
      obtain ⟨s, h5, hs5⟩ : ∃ (s : BA), vs 5 = .string s /\ s.size <= 1 := hd ⟨5, .data⟩ (by simp) rfl
      have HS5 := hI hs5
      clear hs5
      rw [h5] at i5
      obtain ⟨x, xv, h9, hs9⟩ : ∃ (x : Ex) (xv : ExV), vs 9 = ExV.val xv /\ (MadeOk 2 x /\ IsEx (mask W N) x (ExV.val xv)) := hd ⟨9, .data⟩ (by simp) rfl
      have HS9 := hI hs9
      clear hs9
      rw [h9] at i9
      obtain ⟨bl, ba, bn, bc, h15, hs15⟩ : ∃ (bl : List Wb) (ba : OA) (bn : Nat) (bc : Nat), vs 15 = .slice ba bn bc /\ (bn = bl.length /\ bn <= bc /\ OkAddr ba bc /\ WbsD (mask W N) bl ba /\ wbOk bl /\ wbN bl <= bndB d) := hd ⟨15, .data⟩ (by simp) rfl
      have HS15 := hI hs15
      clear hs15
      rw [h15] at i15
      clear hd
      unfold ExV.val exV at i9
      unfold GivesOp
      go_simp
      exact ⟨Chg.refl _ _, gnl HW.out HW.out.1 (Chg.refl _ _), .mk s x bl, ⟨s, xv, ba, bn, bc⟩, rfl, ⟨rfl, HS9.out.2, HS15.out.1, HS15.out.2.1, HS15.out.2.2.1, HS15.out.2.2.2.1⟩, Nat.le_trans HS5.out (by omega), HS9.out.1.fits, HS9.out.1.few, Nat.le_trans HS9.out.1.size (by simp only [bndS]; omega), HS15.out.2.2.2.2.1, HS15.out.2.2.2.2.2⟩
     ·have hnq : 18 ∉ L := fun h => absurd (hcL 18 h) (by decide +kernel)
      have HW := hI (show DeckAt w0 W bd /\ Chg [bd] wr W from ⟨hW.1, hW.2.2 hnq⟩)
      clear hW hqL hcL
      have HNQ := hI hnq
      clear hnq
      cases ho
      obtain ⟨x, wv, h16, hs16⟩ : ∃ (x : Wb) (wv : WbV), vs 16 = .agg #[.string wv.name, .int .i64 wv.x.op, .string wv.x.name, .slice wv.x.aw wv.x.nw wv.x.cw, .int .i64 wv.x.lo, .int .i64 wv.x.hi, .slice wv.x.aa wv.x.na wv.x.ca, .slice wv.au wv.nu wv.cu] /\ (IsWb (mask W N) x wv /\ WbGood d x) := hd ⟨16, .data⟩ (by simp) rfl
      have HS16 := hI hs16
      clear hs16
      rw [h16] at i16
      clear hd
      unfold GivesOp
      go_simp
      exact ⟨((Ext.refl W).alloc _).chg _, gnl HW.out (HW.out.1.ext ((Ext.refl W).alloc _)) (((Ext.refl W).alloc _).chg [bd]), x, wv, W.heap.size, rfl, alloc_new W _, by have := HW.out.1.lt; omega, HS16.out.1.mono (mask_step (((Ext.refl W).alloc _).chg [bd]) HNN.out), HS16.out.2⟩
     have hnq : 18 ∉ L := hqL
     have HW := hI (show DeckAt w0 W bd /\ Chg [bd] wr W from ⟨hW.1, hW.2.2 hnq⟩)
     clear hW hqL hcL
     have HNQ := hI hnq
     clear hnq
     cases ho
     have h0 : vs 0 = _ := hd ⟨0, .data⟩ (by simp) rfl
     rw [h0] at i0
     obtain ⟨x, wv, g, h17, hs17⟩ : ∃ (x : Wb) (wv : WbV) (g : Nat), vs 17 = .slice (some ⟨g, 0, none⟩) 1 1 /\ (W.heap[g]? = some (.cells wv.cells.toArray 53 (0, 0)) /\ g ≠ bd /\ IsWb (mask W N) x wv /\ WbGood d x) := hd ⟨17, .data⟩ (by simp) rfl
     have HS17 := hI hs17
     clear hs17
     rw [h17] at i17
     clear hd
     have ho0 := owns_chg HOW.out HW.out.2 (fun q hq hm => by simp only [List.mem_singleton] at hm; have := (HOW.out.lt q hq).1; have := HBW.out; omega)
     refine gives_append elemWb _ _ (bw + 1) _ l.length _ i0 g 1 1 wv.cells i17 rfl (by simp [WbV.cells, Value.oneCell']) (by omega) (by omega) (by omega) ho0 (fun j hj => by rw [blk_cell HS17.out.1]; simp) (by have := HW.out.2.size; have := HSZ.out; omega) ?_
     intro g2 cap w2 ho2 hg2 hw2 hlt2
     have hcg : Chg (rowOf (.slice va l.length vc)) W w2 := grown_chg hg2
     have hcb : Chg (bd :: rowOf (.slice va l.length vc)) W w2 := hcg.weak (fun y hy => List.mem_cons_of_mem _ hy)
     have hbd2 : bd ∉ rowOf (.slice va l.length vc) := fun hm => by have := (HOW.out.lt bd (mem_rowOf.1 hm)).1; have := HBW.out; omega
     have hkeep : Sub (mask W N) (mask w2 (bd :: rowOf (.slice (some ⟨g2, 0, none⟩) (l.length + 1) cap) ++ M)) := HKP.out W w2 _ _ HW.out.2 hcg hw2
     exact ⟨hcb, ⟨HW.out.1.chg hcg hbd2 (fun q hq => by have := (HOW.out.lt q (mem_rowOf.1 hq)).1; have := HB0.out; omega), (HW.out.2.weak (fun y hy => by simp at hy; simp [hy])).then hcb, fun h => absurd (by simp) h⟩, x, wv, _, rfl, ho2, ((HWR.out W HW.out.2).mono hkeep).snoc (HS17.out.2.2.1.mono hkeep), HS17.out.2.2.2⟩
    intro L vs W hLm hW hR
    rw [if_neg (by decide +kernel)]
    obtain ⟨x, wv, v2, h18, hs18⟩ : ∃ (x : Wb) (wv : WbV) (v2 : Value), vs 18 = v2 /\ (W.ownsRow (bw + 1) 53 8 v2 (l.length + 1) (ws.flatMap WbV.cells ++ wv.cells) /\ WbsR (mask W (bd :: rowOf v2 ++ M)) (l ++ [x]) (ws ++ [wv]) /\ WbGood d x) := hR 18 (by simp) (by omega)
    have HS18 := hI hs18
    clear hs18
    refine wpOp_lastG rfl ?_
    change wpList _ _ _ [⟨some 9, .assign (.tmp 39), _, _, _, none⟩] _ _
    simp only [acts, dstAt, List.range, List.range.loop, List.foldl_cons, List.foldl_nil, h18]
    go_simp
    have hW2 : DeckAt w0 W bd /\ Chg (bd :: rowOf (.slice va l.length vc)) wr W := ⟨hW.1, hW.2.1⟩
    clear hR hW hLm h18
    have HW2 := hI hW2
    obtain ⟨a2, c2, hv2⟩ := owns_formG HS18.out.1
    subst hv2
    obtain ⟨xn, xc, xu⟩ := x
    have HG := hI HS18.out.2.2
    have HC2 := hI (show Chg [bd] w W from HCG.out.trans hW2.2 (fun y hy => by
     rcases List.mem_cons.1 hy with h | h
     ·exact Or.inl (by simp [h])
     have := (HOW.out.lt y (mem_rowOf.1 h)).1
     have := HBE.out
     exact Or.inr (by omega)))
    have HBX2 := hI (hW2.2.blk HBX.out (fun hy => by
     rcases List.mem_cons.1 hy with h | h
     ·have := HBW.out; omega
     have := (HOW.out.lt bw (mem_rowOf.1 h)).1; omega))
    clear hW2
    go_wp2_with fail
    go_roundw
    case rel => exact ⟨l ++ [.mk xn xc xu], ws ++ [wv], q - 1, by go_num, by simp; omega, by omega, by have := HS18.out.1; simpa using this, HS18.out.2.1, wbOk_snoc l xn xc xu HWO.out HG.out.1 HG.out.2.1 HG.out.2.2.1 HG.out.2.2.2.1 HG.out.2.2.2.2.1, by
     have h1 := HWN.out
     have h2 : wbN xu <= bndB d := HG.out.2.2.2.2.2
     rw [wbN_snoc, List.length_append, List.length_singleton, Nat.add_mul, Nat.one_mul]
     omega, HW2.out.1, HC2.out, HBX2.out⟩
    case measure => simp [intOf]; omega
   have t14 : decide (0 < q) = false := decide_eq_false hq
   obtain ⟨a', c', hv, h1, h2, h3⟩ := wbs_owns (M := M) HOW.out (fun k hk hm => by have := (HOW.out.lt k hk).1; have := HM.out k hm; omega) (HWL.out.mono (mask_less _ (fun y hy => by simp [hy])))
   have HV := hI hv
   have H3 := hI h3
   have H2 := hI h2
   clear hv h3 h2
   go_wp2_with fail
   go_ret
   rw [HV.out]
   exact ⟨l, a', _, c', rfl, rfl, h1, H2.out, H3.out, HWO.out, Nat.le_trans HWN.out (by simp only [bndB]; exact Nat.mul_le_mul_right _ (by omega)), HDK.out, HCG.out⟩
def clV (v : ClV) : Value := .agg #[.int .i64 v.kind, .string v.name, .int .i64 v.x.op, .string v.x.name, .slice v.x.aw v.x.nw v.x.cw, .int .i64 v.x.lo, .int .i64 v.x.hi, .slice v.x.aa v.x.na v.x.ca, .slice v.au v.nu v.cu, .int .i64 v.amount]
def CGood (c : Cla) : Prop := c.cond.fits /\ c.cond.few /\ c.cond.size <= 1000 /\ bareE c.cond = true /\ wbOk c.unl /\ wbN c.unl <= 1000
def AmtOk (kind am : Int) : Prop := (mostOf kind = 0 /\ am = 0) \/ (0 < mostOf kind /\ 1 <= am /\ am <= mostOf kind)
def ClaQ (attrs : List Attr) (names : ZB) (kind : Int) (name : BA) (w0 : World) (bd : Nat) (M : ZN) (w : World) (e : Ending) (w' : World) : Prop := ∃ (c : Cla) (v : ClV), e = .returned (clV v) /\ c.kind = kind /\ c.name = name /\ MadeE attrs names 3 c.cond /\ (kind = 3 \/ c.unl = []) /\ AmtOk kind c.amount /\ CGood c /\ IsCla (mask w' M) c v /\ DeckAt w0 w' bd /\ Chg [bd] w w'
theorem mask_grow {W W' : World} {K N : ZN} (h : Chg K W W') (hk : ∀ y ∈ K, y ∈ N \/ W.heap.size <= y) : Sub (mask W N) (mask W' N) := mask_sub_mask fun k hlt hn => ⟨hn, h.block k hlt fun hm => by
 rcases hk k hm with h1 | h1
 ·exact hn h1
 omega⟩
def CutG (w0 wb : World) (bd bc br : Nat) (M : ZN) (kind : Int) (name : BA) (x : Ex) (xv : ExV) (zr : List Value) (wx : World) : Prop := ∃ (unl : List Wb) (au : OA) (nu cu : Nat), wx.heap[bc]? = some (.cells #[.int .i64 kind, .string name, .int .i64 xv.op, .string xv.name, .slice xv.aw xv.nw xv.cw, .int .i64 xv.lo, .int .i64 xv.hi, .slice xv.aa xv.na xv.ca, .slice au nu cu, .int .i64 0] 48 (0, 0)) /\
 wx.heap[br]? = some (.cells zr.toArray 48 (0, 0)) /\ nu = unl.length /\ nu <= cu /\ OkAddr au cu /\ WbsD (mask wx (bd :: bc :: br :: M)) unl au /\ IsEx (mask wx (bd :: bc :: br :: M)) x xv.val /\ wbOk unl /\ wbN unl <= 6 /\ DeckAt w0 wx bd /\ Chg [bd, bc] wb wx /\ (kind = 3 \/ unl = [])
theorem gcl_fin {attrs : List Attr} {names : ZB} {kind : Int} {name : BA} {w0 w w1 wb wx w5 W : World} {bd bc br : Nat} {M : ZN} {x : Ex} {xv : ExV} {ul : List Wb} {ua : OA} {un uc : Nat} {am : Int} (hmo : MadeE attrs names 3 x /\ MadeOk 3 x) (hku : kind = 3 \/ ul = []) (ham : AmtOk kind am) (hcw : Chg [bd] w w1) (hxb : Ext w1 wb) (hle : bd < w.heap.size /\ w.heap.size <= br /\ br < bc) (h0 : w0.heap.size <= w.heap.size)
  (hq : un = ul.length /\ un <= uc /\ OkAddr ua uc) (h4 : WbsD (mask wx (bd :: bc :: br :: M)) ul ua) (h6 : IsEx (mask wx (bd :: bc :: br :: M)) x xv.val) (h7 : wbOk ul /\ wbN ul <= 6) (h9 : Chg [bd, bc] wb wx) (hd5 : DeckAt w0 w5 bd) (hc5 : Chg [bd] wx w5) (hcs : Chg [bc, br] w5 W) :
  ClaQ attrs names kind name w0 bd M w (.returned (clV ⟨kind, name, xv, ua, un, uc, am⟩)) W := by
 have s1 : Sub (mask wx (bd :: bc :: br :: M)) (mask W M) := ((mask_grow hc5 (fun y hy => by simp at hy; simp [hy])).trans (mask_grow hcs (fun y hy => by simp at hy; rcases hy with rfl | rfl <;> simp))).trans (mask_less _ (fun y hy => by simp [hy]))
 refine ⟨⟨kind, name, x, ul, am⟩, _, rfl, rfl, rfl, hmo.1, hku, ham, ⟨hmo.2.fits, hmo.2.few, Nat.le_trans hmo.2.size (by simp [bndS]), hmo.2.bare, h7.1, Nat.le_trans h7.2 (by omega)⟩, ⟨rfl, rfl, h6.mono s1, hq.1, hq.2.1, hq.2.2, WbsD.mono s1 _ _ h4, rfl⟩, ?_, ?_⟩
 ·exact hd5.chg hcs (by simp; omega) (fun y hy => by simp at hy; omega)
 refine (((hcw.then (hxb.chg [bd])).trans h9 ?_).then hc5).trans hcs ?_
 ·intro y hy; simp at hy; rcases hy with rfl | rfl
  ·exact Or.inl (by simp)
  exact Or.inr (by omega)
 intro y hy; simp at hy; exact Or.inr (by omega)
theorem gclause_calls {attrs : List Attr} (hat : attrs ∈ schemas) (names : ZB) (hok : ∀ a ∈ attrs, OkAttr a) (hne : attrs ≠ []) (hl : attrs.length <= 1000) (hnl : names.length <= 1000) (hns : ∀ x ∈ names, x.size <= 1000) {w0 w : World} {bd : Nat} (hd : DeckAt w0 w bd) (sa : OA) (sn sc : Nat) (an : OA) (nn cn : Nat) (M : ZN) (hs : IsSchema (mask w [bd]) attrs (.agg #[.slice sa sn sc])) (hn : IsStrs (mask w [bd]) names an nn cn) (hM : ∀ y ∈ M, y < w.heap.size) (kind : Int) (name : BA) :
  Calls Tryz.prog 19 #[.pointer (some ⟨bd, 0, none⟩), .agg #[.slice sa sn sc], .int .i64 kind, .string name, .slice an nn cn] w (ClaQ attrs names kind name w0 bd M w) := by
 have hbw := hd.lt
 obtain ⟨wa, hwa⟩ : ∃ wa, wa = (w.alloc (.cells #[.slice sa sn sc] 24)).alloc (.cells #[.int .i64 0, .string ⟨#[]⟩, .int .i64 0, .string ⟨#[]⟩, .slice none 0 0, .int .i64 0, .int .i64 0, .slice none 0 0, .slice none 0 0, .int .i64 0] 48) := ⟨_, rfl⟩
 obtain ⟨br, hbr⟩ : ∃ br, br = w.heap.size + 1 := ⟨_, rfl⟩
 obtain ⟨bs, hbs⟩ : ∃ bs, bs = w.heap.size := ⟨_, rfl⟩
 have hxa : Ext w wa := by rw [hwa]; exact ((Ext.refl w).alloc _).alloc _
 have HXA := hI hxa
 have HBR := hI (show wa.heap[br]? = some (.cells #[.int .i64 0, .string ⟨#[]⟩, .int .i64 0, .string ⟨#[]⟩, .slice none 0 0, .int .i64 0, .int .i64 0, .slice none 0 0, .slice none 0 0, .int .i64 0] 48 (0, 0)) by rw [hwa, hbr]; exact alloc_at (by simp))
 have HBS := hI (show wa.heap[bs]? = some (.cells #[.slice sa sn sc] 24 (0, 0)) by rw [hwa, hbs]; exact ((Ext.refl _).alloc _).blk (alloc_new w _))
 have HSZ := hI (show wa.heap.size = w.heap.size + 2 by rw [hwa]; simp)
 have HD := hI (hd.ext hxa)
 have HS := hI hs
 have HN := hI hn
 have HM := hI hM
 have HBB := hI (show bd < bs /\ bs = w.heap.size /\ br = w.heap.size + 1 from ⟨by omega, hbs, hbr⟩)
 have HOKK := hI hok
 have HB0 := hI (show w0.heap.size <= w.heap.size by obtain ⟨_, _, _, _, _, _, _, _, hxw, _⟩ := hd; exact hxw.size)
 go_enter Tryz.func19, Tryz.ntmps19
 go_upto_region 1 with fail
 rw [<- hwa, <- hbr, <- hbs]
 clear hwa hbr hbs hxa hd hs hn hM hok hbw
 obtain ⟨b0, bf⟩ := blk1 HBS.out
 have HDX := hI (show Calls Tryz.prog 40 #[.pointer (some ⟨bd, 0, none⟩), .agg #[.slice sa sn sc], .slice an nn cn, .int .i64 3] wa (MadeQ (fun x => MadeE attrs names 3 x /\ MadeOk 3 x) w0 bd (bd :: br :: M) wa) from
  (dexpr_calls attrs names HOKK.out hne hl hnl 2 (by omega) HD.out sa sn sc an nn cn (bd :: br :: M) (HS.out.mono (mask_step (HXA.out.chg [bd]) (by simp))) (HN.out.mono (mask_step (HXA.out.chg [bd]) (by simp))) (fun y hy => by
   have h1 := HSZ.out; have h2 := HBB.out
   simp only [List.mem_cons] at hy
   rcases hy with rfl | rfl | hy
   ·omega
   ·omega
   have := HM.out y hy; omega)).mono fun e w' h => h.mono fun x hx => ⟨hx, made_okay hat hns 3 x hx⟩)
 go_wp2_with fail
 refine HDX.out.mono ?_
 rintro e w1 ⟨x, xv, rfl, hmo, hix, hd1, hc1⟩
 have HMO := hI hmo
 have HIX := hI hix
 have HD1 := hI hd1
 have HC1 := hI hc1
 clear hmo hix hd1 hc1 b0 bf HDX HD
 unfold ExV.val exV
 go_upto_region 2 with fail
 obtain ⟨bc, hbc⟩ : ∃ bc, bc = w1.heap.size := ⟨_, rfl⟩
 obtain ⟨wb, hwb⟩ : ∃ wb, wb = w1.alloc (.cells #[.int .i64 kind, .string name, .int .i64 xv.op, .string xv.name, .slice xv.aw xv.nw xv.cw, .int .i64 xv.lo, .int .i64 xv.hi, .slice xv.aa xv.na xv.ca, .slice none 0 0, .int .i64 0] 48) := ⟨_, rfl⟩
 have hxb : Ext w1 wb := by rw [hwb]; exact (Ext.refl _).alloc _
 have HXB := hI hxb
 have HBC := hI (show wb.heap[bc]? = some (.cells #[.int .i64 kind, .string name, .int .i64 xv.op, .string xv.name, .slice xv.aw xv.nw xv.cw, .int .i64 xv.lo, .int .i64 xv.hi, .slice xv.aa xv.na xv.ca, .slice none 0 0, .int .i64 0] 48 (0, 0)) by rw [hwb, hbc]; exact alloc_new w1 _)
 have h1s := HC1.out.size
 have HLE := hI (show bd < bs /\ bs < br /\ br < bc /\ bc < wb.heap.size by
  have := HBB.out; have := HSZ.out
  rw [hwb, hbc]
  simp
  omega)
 have HBR2 := hI (hxb.blk (HC1.out.blk HBR.out (by have := HLE.out; simp; omega)))
 have HBS2 := hI (hxb.blk (HC1.out.blk HBS.out (by have := HLE.out; simp; omega)))
 have HIX2 := hI (show IsEx (mask wb (bd :: bc :: br :: M)) x xv.val from HIX.out.mono (by
  rw [hwb]
  refine (mask_sub_mask fun k hk hn => ⟨?_, Below.heap_alloc w1 _ k hk⟩)
  simp only [List.mem_cons, not_or] at hn ⊢
  exact ⟨hn.1, by omega, hn.2.1, hn.2.2⟩))
 rw [<- hwb, <- hbc]
 have HCW := hI ((HXA.out.chg [bd]).then HC1.out)
 have HDB := hI (HD1.out.ext hxb)
 clear hwb hbc hxb h1s HBR HBS HIX HD1
 go_upto_if 21 with fail
 go_cut [] (CutG w0 wb bd bc br M kind name x xv [.int .i64 0, .string ⟨#[]⟩, .int .i64 0, .string ⟨#[]⟩, .slice none 0 0, .int .i64 0, .int .i64 0, .slice none 0 0, .slice none 0 0, .int .i64 0])
 case first =>
  by_cases h3 : kind = 3
  ·have t3 : (kind == 3) = true := by simp [h3]
   have HK3 := hI h3
   clear h3
   obtain ⟨b0, bf⟩ := blk1 HBS2.out
   have HBK := hI (show Calls Tryz.prog 41 #[.pointer (some ⟨bd, 0, none⟩), .agg #[.slice sa sn sc], .slice an nn cn, .int .i64 2] wb (BacksQ 2 w0 bd (bd :: bc :: br :: M) wb) from
    backs_calls hat names HOKK.out hne hl hnl hns 2 (by omega) HDB.out sa sn sc an nn cn (bd :: bc :: br :: M) (HS.out.mono (mask_step (HCW.out.then (HXB.out.chg [bd])) (by simp))) (HN.out.mono (mask_step (HCW.out.then (HXB.out.chg [bd])) (by simp))) (fun y hy => by
     have h1 := HSZ.out; have h2 := HBB.out; have h3 := HLE.out
     simp only [List.mem_cons] at hy
     rcases hy with rfl | rfl | rfl | hy
     ·omega
     ·omega
     ·omega
     have := HM.out y hy; omega))
   go_wp2_with fail
   refine HBK.out.mono ?_
   rintro e w2 ⟨ul, ua, un, uc, rfl, q1, q2, q3, q4, q5, q6, hd2, hc2⟩
   have hb2 := hc2.blk HBC.out (by have := HLE.out; simp; omega)
   obtain ⟨c0, c1, c2, c3, c4, c5, c6, c7, c8, c9, cf⟩ := blk10r hb2
   have HB2 := hI hb2
   have HR2 := hI (hc2.blk HBR2.out (by have := HLE.out; simp; omega))
   have HQ := hI (show un = ul.length /\ un <= uc /\ OkAddr ua uc /\ WbsD (mask w2 (bd :: bc :: br :: M)) ul ua /\ wbOk ul /\ wbN ul <= 6 from ⟨q1, q2, q3, q4, q5, q6⟩)
   have HD2 := hI hd2
   have HC2 := hI hc2
   clear q1 q2 q3 q4 q5 q6 hd2 hc2 hb2 b0 bf HBK
   go_wp2_with fail
   go_meet
   case rel =>
    have hcs : Chg [bd, bc] w2 (w2.setCell ⟨bc, 8, none⟩ (.slice ua un uc)) := (Chg.refl _ _).setCell (Or.inl (by simp)) _
    have hcs2 : Chg [bc] w2 (w2.setCell ⟨bc, 8, none⟩ (.slice ua un uc)) := (Chg.refl _ _).setCell (Or.inl (by simp)) _
    obtain ⟨q1, q2, q3, q4, q5, q6⟩ := HQ.out
    refine ⟨ul, ua, un, uc, ?_, ?_, q1, q2, q3, ?_, ?_, q5, q6, ?_, ?_, Or.inl HK3.out⟩
    ·rw [heap_setCell_same w2 bc 8 _ _ (.slice ua un uc) HB2.out]; simp
    ·exact hcs2.blk HR2.out (by have := HLE.out; simp; omega)
    ·exact WbsD.mono (mask_grow hcs (fun y hy => by simp at hy; rcases hy with rfl | rfl <;> simp)) _ _ q4
    ·exact (HIX2.out.mono (mask_step HC2.out (by simp))).mono (mask_grow hcs (fun y hy => by simp at hy; rcases hy with rfl | rfl <;> simp))
    ·exact HD2.out.chg hcs2 (by have := HLE.out; simp; omega) (fun y hy => by simp only [List.mem_singleton] at hy; have := HB0.out; have := HBB.out; have := HLE.out; omega)
    exact (HC2.out.weak (fun y hy => by simp at hy; simp [hy])).then hcs
  have t3 : (kind == 3) = false := by simp [h3]
  clear h3
  go_wp2_with fail
  go_meet
  case rel => exact ⟨[], none, 0, 0, HBC.out, HBR2.out, rfl, Nat.le_refl _, Or.inl ⟨rfl, rfl⟩, by unfold WbsD; trivial, HIX2.out, by unfold wbOk; trivial, by simp [wbN], HDB.out, Chg.refl _ _, Or.inr rfl⟩
 case rest =>
  obtain ⟨ul, ua, un, uc, hb, hr, q1, q2, q3, q4, q5, q6, q7, q8, q9, qA⟩ := hcut
  obtain ⟨wx, rfl⟩ : ∃ wx : World, wx = wc := ⟨_, rfl⟩
  obtain ⟨c0, c1, c2, c3, c4, c5, c6, c7, c8, c9, cf⟩ := blk10r hb
  obtain ⟨r0, r1, r2, r3, r4, r5, r6, r7, r8, r9, rf⟩ := blk10r hr
  have hbr : br ≠ bc := by have := HLE.out; omega
  have HB := hI hb
  have HR := hI hr
  have HQ := hI (show un = ul.length /\ un <= uc /\ OkAddr ua uc from ⟨q1, q2, q3⟩)
  have H4 := hI q4
  have H67 := hI (show IsEx (mask wx (bd :: bc :: br :: M)) x xv.val /\ wbOk ul /\ wbN ul <= 6 from ⟨q5, q6, q7⟩)
  have H8 := hI q8
  have H9 := hI q9
  have HA := hI qA
  clear hb hr q1 q2 q3 q4 q5 q6 q7 q8 q9 qA HBC HBR2 HIX2 HDB
  go_wp2_with fail
  refine (rMost_calls kind wx).mono ?_
  rintro e w4 ⟨rfl, rfl⟩
  have hmo : 0 <= mostOf kind /\ mostOf kind <= 1073741824 := by
   unfold mostOf
   split
   ·omega
   split <;> omega
  obtain ⟨m, hm⟩ : ∃ m, m = mostOf kind := ⟨_, rfl⟩
  rw [<- hm] at hmo ⊢
  have HMM := hI hm
  obtain ⟨hm0, hm1⟩ := hmo
  clear hm
  by_cases hmp : 0 < m
  ·have tm : decide (0 < m) = true := decide_eq_true hmp
   go_wp2_with fail
   refine (upto_calls H8.out (m - 1) (by omega) (by omega)).mono ?_
   rintro e w5 ⟨z, rfl, hz0, hz1, hd5, hc5⟩
   have hb5 := hc5.blk HB.out (by have := HLE.out; simp; omega)
   have hr5 := hc5.blk HR.out (by have := HLE.out; simp; omega)
   clear c0 c1 c2 c3 c4 c5 c6 c7 c8 c9 cf r0 r1 r2 r3 r4 r5 r6 r7 r8 r9 rf
   obtain ⟨c0, c1, c2, c3, c4, c5, c6, c7, c8, c9, cf⟩ := blk10r hb5
   obtain ⟨r0, r1, r2, r3, r4, r5, r6, r7, r8, r9, rf⟩ := blk10r hr5
   have HB5 := hI hb5
   have HR5 := hI hr5
   have HD5 := hI hd5
   have HC5 := hI hc5
   clear hb5 hr5 hd5 hc5
   go_wp2_with fail
   refine bodyPost_ret (v := clV ⟨kind, name, xv, ua, un, uc, 1 + z⟩) (by simp [results, Tryz.results19, go_sem, clV, r0, r1, r2, r3, r4, r5, r6, r7, r8, r9]) rfl ?_
   refine gcl_fin HMO.out HA.out (Or.inr (by rw [<- HMM.out]; omega)) HCW.out HXB.out (by have := HLE.out; have := HBB.out; omega) HB0.out HQ.out H4.out H67.out.1 H67.out.2 H9.out HD5.out HC5.out ?_
   repeat (with_reducible (refine Chg.setCell ?_ (Or.inl (by simp)) _))
   exact Chg.refl _ _
  have tm : decide (0 < m) = false := decide_eq_false hmp
  go_wp2_with fail
  refine bodyPost_ret (v := clV ⟨kind, name, xv, ua, un, uc, 0⟩) (by simp [results, Tryz.results19, go_sem, clV, r0, r1, r2, r3, r4, r5, r6, r7, r8, r9]) rfl ?_
  refine gcl_fin HMO.out HA.out (Or.inl ⟨by rw [<- HMM.out]; omega, rfl⟩) HCW.out HXB.out (by have := HLE.out; have := HBB.out; omega) HB0.out HQ.out H4.out H67.out.1 H67.out.2 H9.out H8.out (Chg.refl _ _) ?_
  repeat (with_reducible (refine Chg.setCell ?_ (Or.inl (by simp)) _))
  exact Chg.refl _ _
def itemErr (s : List Attr) (l : List Cla) (x : Wb) : Int := if nodesErr s l x.cond ≠ 0 then nodesErr s l x.cond else backsErr s l x.unl
theorem itemErr_mk (s : List Attr) (l : List Cla) (n : BA) (c : Ex) (u : List Wb) : itemErr s l (.mk n c u) = if nodesErr s l c ≠ 0 then nodesErr s l c else backsErr s l u := rfl
theorem backsErr_cons (s : List Attr) (l : List Cla) (x : Wb) (r : List Wb) : backsErr s l (x :: r) = if itemErr s l x ≠ 0 then itemErr s l x else backsErr s l r := by
 obtain ⟨n, c, u⟩ := x
 rw [backsErr, itemErr_mk]
 by_cases hn : nodesErr s l c = 0
 ·simp [hn]
 simp [hn]
theorem backsErr_zero {s : List Attr} {l : List Cla} : (r : List Wb) -> (∀ j (h : j < r.length), itemErr s l r[j] = 0) -> backsErr s l r = 0
 | [], _ => by rw [backsErr]
 | x :: r, h => by
  have h0 : itemErr s l x = 0 := h 0 (by simp)
  have hr := backsErr_zero r fun j hj => by have := h (j + 1) (by simpa using hj); simpa using this
  rw [backsErr_cons, h0, hr]; simp
theorem backsErr_hit {s : List Attr} {l : List Cla} : (r : List Wb) -> (k : Nat) -> (hk : k < r.length) -> itemErr s l r[k] ≠ 0 -> (∀ j (h : j < k), itemErr s l (r[j]'(by omega)) = 0) -> backsErr s l r = itemErr s l r[k]
 | [], k, hk, _, _ => by simp at hk
 | x :: r, 0, _, h, _ => by
  have h' : itemErr s l x ≠ 0 := h
  show backsErr s l (x :: r) = itemErr s l x
  rw [backsErr_cons, if_pos h']
 | x :: r, k + 1, hk, h, h0 => by
  have h1 : itemErr s l x = 0 := h0 0 (by omega)
  have hr := backsErr_hit r k (by simpa using hk) (by simpa using h) fun j hj => by have := h0 (j + 1) (by omega); simpa using this
  simp only [List.getElem_cons_succ]
  rw [backsErr_cons, h1, hr]; simp
def itemLarge (l : List Cla) (x : Wb) : Bool := decide (2000 < expanded l x.cond) || backsLarge l x.unl
theorem backsLarge_any (l : List Cla) : (r : List Wb) -> backsLarge l r = r.any (itemLarge l)
 | [] => by simp [backsLarge]
 | .mk n c u :: r => by rw [backsLarge, backsLarge_any l r]; rfl
theorem rbackErr_calls (s : List Attr) (l : List Cla) (hf : ∀ x ∈ s, x.fits) (hsl : s.length <= 1000000000000000) (a : OA) (n c : Nat) (hn : n <= 1000000000000000) (m : Nat) : ∀ (r : List Wb) (ra : OA) (rn rc : Nat) (sv : Value) (w : World), wbN r < m -> m <= 1000000000000000 -> wbOk r -> IsSchema w s sv -> IsClas w l a n c -> WbsD w r ra -> rn = r.length ->
  Calls Tryz.prog 93 #[sv, .slice a n c, .slice ra rn rc] w (GivesE (.int .i64 (backsErr s l r)) w) := by
 induction m with
 | zero => intro r ra rn rc sv w h; omega
 | succ m ih =>
  intro r ra rn rc sv w hm hM hok hs hl hd hrn
  obtain ⟨sa, sn, sc, rfl, hsn⟩ := hs.slice
  have hrl := wbN_len r
  have hrn2 : rn <= 1000000000000000 := by omega
  have HS := hI hs
  have HL := hI hl
  have HD := hI hd
  have HRN := hI hrn
  have HOK := hI hok
  have IH := hI ih
  have HF := hI hf
  clear hs hl hd hrn hok ih hsn hf
  go_enter Tryz.func93, Tryz.ntmps93
  go_wp2_with fail
  go_loopw [7] (fun t wr => ∃ k : Nat, t = .int .i64 k /\ k <= rn /\ (∀ j (h : j < r.length), j < k -> itemErr s l r[j] = 0) /\ wr.heap[w.heap.size]? = some (.cells #[.slice sa sn sc] 24 (0, 0)) /\ Ext w wr) (fun t _ => rn - (intOf t).toNat)
  case atStart => exact ⟨0, rfl, by omega, fun j _ h => by omega, alloc_new w _, (Ext.refl w).alloc _⟩
  case round =>
   obtain ⟨k, rfl, hk, hno, hbx, hxr⟩ := hrel
   have HNO := hI hno
   have HBX := hI hbx
   have HXR := hI hxr
   obtain ⟨d0, df⟩ := blk1 hbx
   clear hno hbx hxr
   by_cases hkn : k < rn
   ·have hkl : k < r.length := by have := HRN.out; omega
    have t1 : decide ((k : Int) < (rn : Int)) = true := decide_eq_true (by omega)
    obtain ⟨b, off, rfl, v, hv0, hrow, hv2, hv3, hv4, hv5, hv6⟩ := WbsD.at r _ (WbsD.mono HXR.out.sub _ _ HD.out) k hkl
    obtain ⟨c0, c1, c2, c3, c4, c5, c6, c7⟩ := hrow.eight
    obtain ⟨ho1, ho2, ho3, ho4, ho5⟩ := wbOk_at r HOK.out k hkl
    have hwn := wbN_at r k hkl
    have HUU := hI hv6
    have HUN := hI hv3
    have HEX := hI hv2
    have HO3 := hI ho3
    have HO5 := hI ho5
    have ti0 : (0 : Int) <= (k : Int) := by omega
    have ti1 : (k : Int) < (rn : Int) := by omega
    clear hrow hv0 hv2 hv3 hv4 hv5 hv6 ho2 ho3 ho5 ho1
    go_wp2_with fail
    go_still_tail 7, (by kernel_rfl)
    change wpList _ _ _ _ _ wr.drew
    have hx2 : Ext wr wr.drew := (Ext.refl wr).drew
    generalize wr.drew = w2 at hx2 ⊢
    have HX2 := hI (HXR.out.trans hx2)
    have HB2 := hI (hx2.blk HBX.out)
    have HEX2 := hI (HEX.out.ext hx2)
    have c7' := hx2.cell c7
    have HU2 := hI (WbsD.mono hx2.sub _ _ HUU.out)
    clear hx2 d0 df c0 c1 c2 c3 c4 c5 c6 c7
    go_wp2_with fail
    refine (rnodesErr_calls s l HF.out hsl a n c hn 1000000000000000 r[k].cond _ _ w2 ho4 (by omega) HO3.out (HS.out.ext HX2.out) (HL.out.ext HX2.out) HEX2.out).mono ?_
    rintro e w3 ⟨rfl, hx3⟩
    have HX3 := hI (HX2.out.trans hx3)
    have HB3 := hI (hx3.blk HB2.out)
    obtain ⟨d0, df⟩ := blk1 (hx3.blk HB2.out)
    have c73 := hx3.cell c7'
    have HU3 := hI (WbsD.mono hx3.sub _ _ HU2.out)
    clear hx3 c7'
    by_cases hz : nodesErr s l r[k].cond = 0
    ·have tz : (nodesErr s l r[k].cond != 0) = false := by simp [hz]
     have HIE := hI (show itemErr s l r[k] = backsErr s l r[k].unl by unfold itemErr; rw [if_neg (by simp [hz])])
     clear hz
     go_wp2_with fail
     go_still_tail 7, (by kernel_rfl)
     change wpList _ _ _ _ _ w3.drew
     have hx4 : Ext w3 w3.drew := (Ext.refl w3).drew
     generalize w3.drew = w4 at hx4 ⊢
     have HX4 := hI (HX3.out.trans hx4)
     have HB4 := hI (hx4.blk HB3.out)
     have HU4 := hI (WbsD.mono hx4.sub _ _ HU3.out)
     clear hx4 d0 df c73
     go_wp2_with fail
     refine (IH.out r[k].unl _ _ _ _ w4 (by omega) (by omega) HO5.out (HS.out.ext HX4.out) (HL.out.ext HX4.out) HU4.out HUN.out).mono ?_
     rintro e w5 ⟨rfl, hx5⟩
     have HX5 := hI (HX4.out.trans hx5)
     have HB5 := hI (hx5.blk HB4.out)
     clear hx5
     by_cases hy : backsErr s l r[k].unl = 0
     ·have ty : (backsErr s l r[k].unl != 0) = false := by simp [hy]
      have HY := hI hy
      clear hy
      go_wp2_with fail
      go_roundw
      case rel =>
       refine ⟨k + 1, by go_num, by omega, fun j hj hjk => ?_, HB5.out, HX5.out⟩
       by_cases e' : j = k
       ·subst e'; rw [HIE.out]; exact HY.out
       exact HNO.out j hj (by omega)
      case measure => simp [intOf]; omega
     have ty : (backsErr s l r[k].unl != 0) = true := by simp [hy]
     have HR := hI (show backsErr s l r = backsErr s l r[k].unl by rw [<- HIE.out]; exact backsErr_hit r k hkl (by rw [HIE.out]; exact hy) fun j hj => HNO.out j (by omega) hj)
     clear hy
     go_wp2_with fail
     go_ret
     exact givesE_of (by rw [HR.out]) HX5.out
    have tz : (nodesErr s l r[k].cond != 0) = true := by simp [hz]
    have HIE : itemErr s l r[k] = nodesErr s l r[k].cond := by unfold itemErr; rw [if_pos hz]
    have HR := hI (show backsErr s l r = nodesErr s l r[k].cond by rw [<- HIE]; exact backsErr_hit r k hkl (by rw [HIE]; exact hz) fun j hj => HNO.out j (by omega) hj)
    clear hz HIE
    go_wp2_with fail
    go_ret
    exact givesE_of (by rw [HR.out]) HX3.out
   have t1 : decide ((k : Int) < (rn : Int)) = false := decide_eq_false (by omega)
   have HR := hI (show backsErr s l r = 0 from backsErr_zero r fun j hj => HNO.out j hj (by have := HRN.out; omega))
   go_wp2_with fail
   go_ret
   exact givesE_of (by rw [HR.out]) HXR.out
theorem rbackLarge_calls (l : List Cla) (a : OA) (n c : Nat) (hn : n <= 1000000) (hsz : ∀ x ∈ l, x.cond.size <= 1000000000000000) (m : Nat) : ∀ (r : List Wb) (ra : OA) (rn rc : Nat) (w : World), wbN r < m -> m <= 1000000000000000 -> wbOk r -> IsClas w l a n c -> WbsD w r ra -> rn = r.length ->
  Calls Tryz.prog 96 #[.slice a n c, .slice ra rn rc] w (GivesE (.bool (backsLarge l r)) w) := by
 induction m with
 | zero => intro r ra rn rc w h; omega
 | succ m ih =>
  intro r ra rn rc w hm hM hok hl hd hrn
  have hrl := wbN_len r
  have hrn2 : rn <= 1000000000000000 := by omega
  have HL := hI hl
  have HD := hI hd
  have HRN := hI hrn
  have HOK := hI hok
  have IH := hI ih
  have HSZ := hI hsz
  obtain ⟨R, hR⟩ : ∃ R, R = backsLarge l r := ⟨_, rfl⟩
  rw [<- hR]
  have HR := hI (show R = r.any (itemLarge l) by rw [hR]; exact backsLarge_any l r)
  clear hl hd hrn hok ih hR hsz
  go_enter Tryz.func96, Tryz.ntmps96
  go_wp2_with fail
  go_loopw [5] (fun t wr => ∃ k : Nat, t = .int .i64 k /\ k <= rn /\ (∀ j (h : j < r.length), j < k -> itemLarge l r[j] = false) /\ Ext w wr) (fun t _ => rn - (intOf t).toNat)
  case atStart => exact ⟨0, rfl, by omega, fun j _ h => by omega, Ext.refl _⟩
  case round =>
   obtain ⟨k, rfl, hk, hno, hxr⟩ := hrel
   have HNO := hI hno
   have HXR := hI hxr
   clear hno hxr
   by_cases hkn : k < rn
   ·have hkl : k < r.length := by have := HRN.out; omega
    have t1 : decide ((k : Int) < (rn : Int)) = true := decide_eq_true (by omega)
    obtain ⟨b, off, rfl, v, hv0, hrow, hv2, hv3, hv4, hv5, hv6⟩ := WbsD.at r _ (WbsD.mono HXR.out.sub _ _ HD.out) k hkl
    obtain ⟨c0, c1, c2, c3, c4, c5, c6, c7⟩ := hrow.eight
    obtain ⟨ho1, ho2, ho3, ho4, ho5⟩ := wbOk_at r HOK.out k hkl
    have hwn := wbN_at r k hkl
    have HUU := hI hv6
    have HUN := hI hv3
    have HEX := hI hv2
    have HO5 := hI ho5
    clear hrow hv0 hv2 hv3 hv4 hv5 hv6 ho2 ho3 ho5 ho1
    go_wp2_with fail
    refine (rExpanded_calls l a n c hn HSZ.out r[k].cond _ wr ho4 (HL.out.ext HXR.out) HEX.out).mono ?_
    rintro e w3 ⟨rfl, hx3⟩
    have HX3 := hI (HXR.out.trans hx3)
    have c73 := hx3.cell c7
    have HU3 := hI (WbsD.mono hx3.sub _ _ HUU.out)
    clear hx3 c0 c1 c2 c3 c4 c5 c6 c7
    have HIL := hI (show itemLarge l r[k] = (decide (2000 < expanded l r[k].cond) || backsLarge l r[k].unl) from rfl)
    obtain ⟨E, hE⟩ : ∃ E, E = expanded l r[k].cond := ⟨_, rfl⟩
    rw [<- hE]
    rw [<- hE] at HIL
    clear hE
    by_cases hz : 2000 < E
    ·have tz : decide ((2000 : Int) < (E : Int)) = true := decide_eq_true (by omega)
     have HF := hI (show R = true by
      rw [HR.out, List.any_eq_true]
      exact ⟨r[k], List.getElem_mem hkl, by rw [HIL.out, decide_eq_true hz]; rfl⟩)
     go_wp2_with fail
     go_ret
     exact givesE_b (by rw [HF.out]) HX3.out
    have tz : decide ((2000 : Int) < (E : Int)) = false := decide_eq_false (by omega)
    rw [decide_eq_false hz, Bool.false_or] at HIL
    go_wp2_with fail
    refine (IH.out r[k].unl _ _ _ w3 (by omega) (by omega) HO5.out (HL.out.ext HX3.out) HU3.out HUN.out).mono ?_
    rintro e w5 ⟨rfl, hx5⟩
    have HX5 := hI (HX3.out.trans hx5)
    clear hx5 c73
    cases hb : backsLarge l r[k].unl
    ·have HI2 := hI (HIL.out.trans hb)
     clear hb
     go_wp2_with fail
     go_roundw
     case rel =>
      refine ⟨k + 1, by go_num, by omega, fun j hj hjk => ?_, HX5.out⟩
      by_cases e' : j = k
      ·subst e'; exact HI2.out
      exact HNO.out j hj (by omega)
     case measure => simp [intOf]; omega
    have HF := hI (show R = true by
     rw [HR.out, List.any_eq_true]
     exact ⟨r[k], List.getElem_mem hkl, by rw [HIL.out, hb]⟩)
    go_wp2_with fail
    go_ret
    exact givesE_b (by rw [HF.out]) HX5.out
   have t1 : decide ((k : Int) < (rn : Int)) = false := decide_eq_false (by omega)
   have HF := hI (show R = false by
    rw [HR.out, List.any_eq_false]
    intro x hx
    obtain ⟨j, hj, rfl⟩ := List.mem_iff_getElem.1 hx
    have := HNO.out j hj (by have := HRN.out; omega)
    simp [this])
   go_wp2_with fail
   go_ret
   exact givesE_b (by rw [HF.out]) HXR.out
structure RInv (l : List Dfn) (o : ZN) : Prop where
 nodup : o.Nodup
 sub : ∀ i ∈ o, isDef l i = true
 after : After l o
theorem RInv.start (l : List Dfn) : RInv l [] := ⟨List.nodup_nil, by simp, fun p i h => by simp at h⟩
theorem RInv.snoc {l : List Dfn} {o : ZN} {p : Nat} (h : RInv l o) (hd : isDef l p = true) (hp : p ∉ o) (hm : missL l o p = []) : RInv l (o ++ [p]) where
 nodup := List.nodup_append.2 ⟨h.nodup, by simp, fun a ha b hb e => hp (by simp at hb; rw [<- hb, <- e]; exact ha)⟩
 sub i hi := by
  rcases List.mem_append.1 hi with h1 | h1
  ·exact h.sub i h1
  simp at h1; rw [h1]; exact hd
 after := h.after.snoc hm
theorem RInv.le {l : List Dfn} {o : ZN} (h : RInv l o) : o.length <= countOf l := nodup_le _ _ h.nodup fun i hi => mem_defs.2 (h.sub i hi)
theorem RInv.lt {l : List Dfn} {o : ZN} {p : Nat} (h : RInv l o) (hd : isDef l p = true) (hp : p ∉ o) : o.length < countOf l := by
 have := nodup_le (p :: o) ((List.range l.length).filter (isDef l)) (List.nodup_cons.2 ⟨hp, h.nodup⟩) (fun i hi => by
  rcases List.mem_cons.1 hi with rfl | hi
  ·exact mem_defs.2 hd
  exact mem_defs.2 (h.sub i hi))
 simp only [List.length_cons] at this
 unfold countOf
 omega
theorem RInv.done {l : List Dfn} {o : ZN} (h : RInv l o) (ha : ∀ i, isDef l i = true -> i ∈ o) : Topo l o := ⟨h.nodup, fun i => ⟨h.sub i, ha i⟩, h.after⟩
theorem RInv.stuck {l : List Dfn} {o : ZN} (hs : ∀ i, isDef l i = true -> i ∉ o -> missL l o i ≠ []) {p : Nat} (hd : isDef l p = true) (hp : p ∉ o) : ¬ Sorts l := by
 rintro ⟨q, hq⟩
 have key : ∀ (p i : Nat), q[p]? = some i -> i ∈ o := by
  intro p
  induction p using Nat.strongRecOn with
  | ind p ih =>
   intro i hi
   refine Classical.byContradiction fun hio => ?_
   refine hs i ((hq.all i).1 (List.mem_of_getElem? hi)) hio (miss_nil.2 fun s hs d hd => ?_)
   obtain ⟨k, hk⟩ := List.mem_iff_getElem?.1 (hq.after p i hi s hs d hd)
   have hkp : k < p := by
    rcases Nat.lt_or_ge k p with h' | h'
    ·exact h'
    rw [List.getElem?_eq_none (by simp; omega)] at hk; cases hk
   rw [List.getElem?_take, if_pos hkp] at hk
   exact ih k hkp d hk
 obtain ⟨k, hk⟩ := List.mem_iff_getElem?.1 ((hq.all p).2 hd)
 exact hp (key k p hk)
end Go.Proofs.YtefjomofjejklaaGreatDoor
