/-
  Texts of the claim, joined: AppAt, GenB, GenB2, GenC, RBerr, ROrd1.
-/
import Derived.Test.YtfjlglefodndjaaDoorDo02
import Derived.Test.YtfjlglefodndjaaDoorDo03
import Derived.Maps.AppendAt
import Derived.Test.YtfjlglefodndjaaDoorDo09
import Derived.Test.YtfjlglefodndjaaDoorDo12
import Derived.Deep.DeepCutAuto
import Derived.Test.YtfjlglefodndjaaDoorDo11
namespace Go.Proofs.YtfjlglefodndjaaDoor
open Go.RowKit

/-- append of elements that were just laid into a block of their own; where the row lies then. -/
theorem wpList_append_at {t e : TypeId} {z : Value} {size bytes : Nat} (E : ElemT t e z size bytes) {ops : Array Oper} {rest : List Oper} {o : Oper} {a : Act} {Q : Exit → Act → World → Prop} {X : World} {arr : Array Value} {tt : TypeId}
    (hgd : o.guard = none) (s x : Operand) (ho : o.op = .call { callee := .builtin .append, args := #[s, x], argTypes := #[t, t] }) (base : Nat) (v : Value) (n : Nat) (xs : List Value) (hs : a.eval s = v) (hown : X.ownsRow base e size v n xs)
    (B m c : Nat) (hx : a.eval x = .slice (some ⟨B, 0, none⟩) m c) (hB : B = X.heap.size) (hl : arr.size = m * size) (h1 : ∀ u ∈ arr.toList, u.oneCell' = true) (hm : n + m ≤ maxLen) (hb : (n + m) * bytes ≤ 140737488355328) (hbase : base ≤ X.heap.size)
    (h : ∀ v' w', w'.ownsRow base e size v' (n + m) (xs ++ arr.toList) → Chg (rowOf v) X w' → (∀ k, v'.ownBlock = some k → v.ownBlock = some k ∨ X.heap.size ≤ k) → wpList Tryd.prog ops Q rest (a.put o.dst v') w') : wpList Tryd.prog ops Q (o :: rest) a (X.alloc (.cells arr tt)) := by
  subst hB
  obtain ⟨i, hi, hz, hsz, hby⟩ := info_parts E.info
  refine wpList_append_own_at (w := X.alloc (.cells arr tt)) hgd s x t ho base e i z size bytes E.ht hi hz hsz hby E.hzs E.hsz v n xs hs (hown.alloc _) ⟨X.heap.size, 0, none⟩ m c arr.toList hx (by simpa using hl) ?_ h1 hm hb (by simp; omega) ?_
  · intro j u hu
    have : (⟨X.heap.size, 0, none⟩ : Addr).add j = ⟨X.heap.size, j, none⟩ := by unfold Addr.add; split <;> simp_all
    rw [this, World.cell?_alloc_at _ _ _ _ rfl]
    simpa using hu
  · intro v' w' h2 h3 _ h5
    refine h v' w' h2 ((((Ext.refl X).alloc _).chg _).trans (grown_chg h3) fun x hx => Or.inl hx) fun k hk => ?_
    rcases h5 with e | e
    · exact Or.inl (e ▸ hk)
    · rw [e] at hk; simp at hk; exact Or.inr (by omega)
theorem Chg.weak {N M : List Nat} {w w' : World} (h : Chg N w w') (hs : ∀ x ∈ N, x ∈ M) : Chg M w w' := ⟨h.os, h.tape, h.output, h.size, fun k hk hn => h.block k hk fun hm => hn (hs k hm)⟩
/-- Under a mask that the row left for a new block, or not. -/
theorem row_keeps {w w' : World} {N : List Nat} {v v' : Value} (hc : Chg (N ++ rowOf v) w w') (hw : ∀ k, v'.ownBlock = some k → v.ownBlock = some k ∨ w.heap.size ≤ k) : Sub (mask w (N ++ rowOf v)) (mask w' (N ++ rowOf v')) := by
  refine mask_sub_mask fun k hk hn => ⟨fun hm => ?_, hc.block k hk hn⟩
  rcases List.mem_append.1 hm with h | h
  · exact hn (List.mem_append_left _ h)
  · rcases hw k (mem_rowOf.1 h) with e | e
    · exact hn (List.mem_append_right _ (mem_rowOf.2 e))
    · omega
end Go.Proofs.YtfjlglefodndjaaDoor

namespace Go.Proofs.YtfjlglefodndjaaDoor
open Go.RowKit

/-! The generator: write-backs. -/
theorem owns_formG {w : World} {base : Nat} {e : TypeId} {size : Nat} {v : Value} {n : Nat} {xs : List Value} (h : w.ownsRow base e size v n xs) : ∃ a c, v = .slice a n c := by
  rcases h.2 with ⟨rfl, rfl⟩ | ⟨g, cap, cur, rfl, _⟩
  · exact ⟨none, 0, rfl⟩
  · exact ⟨_, cap, rfl⟩
def IsWb (w : World) (x : Wb) (v : WbV) : Prop := v.name = x.name ∧ IsEx w x.cond v.x.val ∧ v.nu = x.unl.length ∧ v.nu ≤ v.cu ∧ OkAddr v.au v.cu ∧ WbsD w x.unl v.au
theorem IsWb.mono {w w' : World} {x : Wb} {v : WbV} (h : IsWb w x v) (hs : Sub w w') : IsWb w' x v := ⟨h.1, h.2.1.mono hs, h.2.2.1, h.2.2.2.1, h.2.2.2.2.1, WbsD.mono hs _ _ h.2.2.2.2.2⟩
def WbsR (w : World) (l : List Wb) (vs : List WbV) : Prop := l.length = vs.length ∧ ∀ i (h1 : i < l.length) (h2 : i < vs.length), IsWb w l[i] vs[i]
theorem WbsR.mono {w w' : World} {l : List Wb} {vs : List WbV} (h : WbsR w l vs) (hs : Sub w w') : WbsR w' l vs := ⟨h.1, fun i h1 h2 => (h.2 i h1 h2).mono hs⟩
theorem WbsR.nil (w : World) : WbsR w [] [] := ⟨rfl, fun i h => by simp at h⟩
theorem WbsR.snoc {w : World} {l : List Wb} {vs : List WbV} {c : Wb} {v : WbV} (h : WbsR w l vs) (hc : IsWb w c v) : WbsR w (l ++ [c]) (vs ++ [v]) := by
  refine ⟨by simp [h.1], fun i h1 h2 => ?_⟩
  by_cases hi : i < l.length
  · have hi2 : i < vs.length := by rw [← h.1]; exact hi
    simp only [List.getElem_append_left hi, List.getElem_append_left hi2]
    exact h.2 i hi hi2
  · have e1 : i = l.length := by simp at h1; omega
    subst e1
    simp only [List.getElem_append_right (Nat.le_refl _), List.getElem_append_right (show vs.length ≤ l.length by rw [h.1]; exact Nat.le_refl _), Nat.sub_self, List.getElem_cons_zero]
    simpa [h.1] using hc
theorem elemWb : ElemT 26 104 (.agg #[.string ⟨#[]⟩, .int .i64 0, .string ⟨#[]⟩, .slice none 0 0, .int .i64 0, .int .i64 0, .slice none 0 0, .slice none 0 0]) 8 128 := ⟨by kernel_rfl, by kernel_rfl, rfl, by decide⟩
theorem wbs_owns {w : World} {M : List Nat} {base : Nat} {v : Value} {l : List Wb} {vs : List WbV} (h : w.ownsRow base 104 8 v l.length (vs.flatMap WbV.cells)) (hM : ∀ k, v.ownBlock = some k → k ∉ M) (hR : WbsR (mask w M) l vs) :
    ∃ a c, v = .slice a l.length c ∧ l.length ≤ c ∧ OkAddr a c ∧ WbsD (mask w M) l a := by
  rw [hR.1] at h
  obtain ⟨a, c, rfl, hr⟩ := IsRows.of_owns WbV.len h
  refine ⟨a, c, by rw [hR.1], by rw [hR.1]; exact hr.2.1, hr.2.2.1, ?_⟩
  match l, hR with
  | [], _ => unfold WbsD; trivial
  | e :: r, hR =>
    obtain ⟨b, off, rfl, h1⟩ := hr.2.2.2 0 (by rw [← hR.1]; simp)
    refine WbsD.of (e :: r) off vs hR.1 fun i h3 h4 => ?_
    obtain ⟨q1, q2, q3, q4, q5, q6⟩ := hR.2 i h3 h4
    refine ⟨q1, fun j hj => ?_, q2, q3, q4, q5, q6⟩
    obtain ⟨b', off', e1, h5⟩ := hr.2.2.2 i h4
    simp only [Option.some.injEq, Addr.mk.injEq, and_true] at e1
    obtain ⟨rfl, rfl⟩ := e1
    rw [mask_cell, if_neg (hM _ rfl), h5 j hj]
theorem wbOk_snoc : (l : List Wb) → (n : ByteArray) → (c : Ex) → (u : List Wb) → wbOk l → n.size ≤ 1000000000000000 → c.fits → c.few → c.size ≤ 1000000000000000 → wbOk u → wbOk (l ++ [.mk n c u])
  | [], n, c, u, _, h1, h2, h3, h4, h5 => by simp only [List.nil_append, wbOk]; exact ⟨h1, h2, h3, h4, h5, trivial⟩
  | .mk n' c' u' :: r, n, c, u, h, h1, h2, h3, h4, h5 => by
    rw [wbOk] at h
    rw [List.cons_append, wbOk]
    exact ⟨h.1, h.2.1, h.2.2.1, h.2.2.2.1, h.2.2.2.2.1, wbOk_snoc r n c u h.2.2.2.2.2 h1 h2 h3 h4 h5⟩
theorem wbN_snoc : (l : List Wb) → (n : ByteArray) → (c : Ex) → (u : List Wb) → wbN (l ++ [.mk n c u]) = wbN l + 1 + wbN u
  | [], n, c, u => by simp [wbN]
  | .mk n' c' u' :: r, n, c, u => by rw [List.cons_append, wbN, wbN, wbN_snoc r n c u]; omega
def bndB : Nat → Nat | 0 => 0 | d + 1 => 2 * (1 + bndB d)
def GnE (bd : Nat) (_ : Nat) (W W' : World) : Prop := Chg [bd] W W'
def GnB (bd q : Nat) (N : List Nat) (k : Nat) (W W' : World) : Prop := Chg (if k = q then bd :: N else [bd]) W W'
theorem mask_step {W W' : World} {bd : Nat} {N : List Nat} (h : Chg [bd] W W') (hb : bd ∈ N) : Sub (mask W N) (mask W' N) := mask_sub_mask fun k hk hn => ⟨hn, h.block k hk fun hm => hn (by simp only [List.mem_singleton] at hm; rw [hm]; exact hb)⟩
end Go.Proofs.YtfjlglefodndjaaDoor

namespace Go.Proofs.YtfjlglefodndjaaDoor
open Go.RowKit

def nmsO : Obj := .cells #[.string ⟨#[119]⟩, .string ⟨#[120]⟩, .string ⟨#[121]⟩] 9 (0, 0)
def WbGood (d : Nat) (x : Wb) : Prop := x.name.size ≤ 1000000000000000 ∧ x.cond.fits ∧ x.cond.few ∧ x.cond.size ≤ 1000000000000000 ∧ wbOk x.unl ∧ wbN x.unl ≤ bndB d
def bk5R (d bd bw : Nat) (M N : List Nat) (l : List Wb) (ws : List WbV) (sa : Option Addr) (sn sc : Nat) (an : Option Addr) (nn cn : Nat) (va : Option Addr) (vc : Nat) : Nat → Value → World → Prop
  | 0, u, _ => u = .slice va l.length vc
  | 1, u, W => ∃ (g : Nat), u = .slice (some ⟨g, 0, none⟩) 3 3 ∧ (W.heap[g]? = some nmsO ∧ g ≠ bd)
  | 2, u, _ => u = .pointer (some ⟨bd, 0, none⟩)
  | 3, u, _ => ∃ (r : Nat), u = .int .i64 ((r : Nat) : Int) ∧ r < 3
  | 4, u, W => ∃ (g : Nat) (r : Nat), u = .pointer (some ⟨g, r, none⟩) ∧ (W.heap[g]? = some nmsO ∧ g ≠ bd ∧ r < 3)
  | 5, u, _ => ∃ (s : ByteArray), u = .string s ∧ s.size ≤ 1
  | 6, u, _ => u = .pointer (some ⟨bd, 0, none⟩)
  | 7, u, _ => u = .agg #[.slice sa sn sc]
  | 8, u, _ => u = .slice an nn cn
  | 9, u, W => ∃ (x : Ex) (xv : ExV), u = ExV.val xv ∧ (MadeOk 2 x ∧ IsEx (mask W N) x (ExV.val xv))
  | 10, u, _ => u = .pointer (some ⟨bd, 0, none⟩)
  | 11, u, _ => u = .agg #[.slice sa sn sc]
  | 12, u, _ => u = .slice an nn cn
  | 13, u, _ => u = .int .i64 ((d : Int) + 1)
  | 14, u, _ => u = .int .i64 d
  | 15, u, W => ∃ (bl : List Wb) (ba : Option Addr) (bn : Nat) (bc : Nat), u = .slice ba bn bc ∧ (bn = bl.length ∧ bn ≤ bc ∧ OkAddr ba bc ∧ WbsD (mask W N) bl ba ∧ wbOk bl ∧ wbN bl ≤ bndB d)
  | 16, u, W => ∃ (x : Wb) (wv : WbV), u = .agg #[.string wv.name, .int .i64 wv.x.op, .string wv.x.name, .slice wv.x.aw wv.x.nw wv.x.cw, .int .i64 wv.x.lo, .int .i64 wv.x.hi, .slice wv.x.aa wv.x.na wv.x.ca, .slice wv.au wv.nu wv.cu] ∧ (IsWb (mask W N) x wv ∧ WbGood d x)
  | 17, u, W => ∃ (x : Wb) (wv : WbV) (g : Nat), u = .slice (some ⟨g, 0, none⟩) 1 1 ∧ (W.heap[g]? = some (.cells wv.cells.toArray 104 (0, 0)) ∧ g ≠ bd ∧ IsWb (mask W N) x wv ∧ WbGood d x)
  | _, u, W => ∃ (x : Wb) (wv : WbV) (v2 : Value), u = v2 ∧ (W.ownsRow (bw + 1) 104 8 v2 (l.length + 1) (ws.flatMap WbV.cells ++ wv.cells) ∧ WbsR (mask W (bd :: rowOf v2 ++ M)) (l ++ [x]) (ws ++ [wv]) ∧ WbGood d x)
--END DEF B5
end Go.Proofs.YtfjlglefodndjaaDoor

namespace Go.Proofs.YtfjlglefodndjaaDoor
open Go.RowKit

/-! The generator: a clause. -/
def clV (v : ClV) : Value := .agg #[.int .i64 v.kind, .string v.name, .int .i64 v.x.op, .string v.x.name, .slice v.x.aw v.x.nw v.x.cw, .int .i64 v.x.lo, .int .i64 v.x.hi, .slice v.x.aa v.x.na v.x.ca, .slice v.au v.nu v.cu, .int .i64 v.amount]
def CGood (c : Cla) : Prop := c.cond.fits ∧ c.cond.few ∧ c.cond.size ≤ 1000 ∧ bareE c.cond = true ∧ wbOk c.unl ∧ wbN c.unl ≤ 1000
def AmtOk (kind am : Int) : Prop := (mostOf kind = 0 ∧ am = 0) ∨ (0 < mostOf kind ∧ 1 ≤ am ∧ am ≤ mostOf kind)
theorem mask_grow {W W' : World} {K N : List Nat} (h : Chg K W W') (hk : ∀ y ∈ K, y ∈ N ∨ W.heap.size ≤ y) : Sub (mask W N) (mask W' N) := mask_sub_mask fun k hlt hn => ⟨hn, h.block k hlt fun hm => by
  rcases hk k hm with h1 | h1
  · exact hn h1
  · omega⟩
end Go.Proofs.YtfjlglefodndjaaDoor

namespace Go.Proofs.YtfjlglefodndjaaDoor
open Go.RowKit

def itemErr (s : List Attr) (l : List Cla) (x : Wb) : Int := if nodesErr s l x.cond ≠ 0 then nodesErr s l x.cond else backsErr s l x.unl
theorem itemErr_mk (s : List Attr) (l : List Cla) (n : ByteArray) (c : Ex) (u : List Wb) : itemErr s l (.mk n c u) = if nodesErr s l c ≠ 0 then nodesErr s l c else backsErr s l u := rfl
theorem backsErr_cons (s : List Attr) (l : List Cla) (x : Wb) (r : List Wb) : backsErr s l (x :: r) = if itemErr s l x ≠ 0 then itemErr s l x else backsErr s l r := by
  obtain ⟨n, c, u⟩ := x
  rw [backsErr, itemErr_mk]
  by_cases hn : nodesErr s l c = 0
  · simp [hn]
  · simp [hn]
theorem backsErr_zero {s : List Attr} {l : List Cla} : (r : List Wb) → (∀ j (h : j < r.length), itemErr s l r[j] = 0) → backsErr s l r = 0
  | [], _ => by rw [backsErr]
  | x :: r, h => by
    have h0 : itemErr s l x = 0 := h 0 (by simp)
    have hr := backsErr_zero r fun j hj => by have := h (j + 1) (by simpa using hj); simpa using this
    rw [backsErr_cons, h0, hr]; simp
theorem backsErr_hit {s : List Attr} {l : List Cla} : (r : List Wb) → (k : Nat) → (hk : k < r.length) → itemErr s l r[k] ≠ 0 → (∀ j (h : j < k), itemErr s l (r[j]'(by omega)) = 0) → backsErr s l r = itemErr s l r[k]
  | [], k, hk, _, _ => by simp at hk
  | x :: r, 0, _, h, _ => by
    have h' : itemErr s l x ≠ 0 := h
    show backsErr s l (x :: r) = itemErr s l x
    rw [backsErr_cons, if_pos h']
  | x :: r, k + 1, hk, h, h0 => by
    have h1 : itemErr s l x = 0 := h0 0 (by omega)
    have hr := backsErr_hit r k (by simpa using hk) (by simpa using h) fun j hj => by have := h0 (j + 1) (by omega); simpa using this
    simp only [List.getElem_cons_succ]
    rw [backsErr_cons, h1, hr]; simp
def itemLarge (l : List Cla) (x : Wb) : Bool := decide (2000 < expanded l x.cond) || backsLarge l x.unl
theorem backsLarge_any (l : List Cla) : (r : List Wb) → backsLarge l r = r.any (itemLarge l)
  | [] => by simp [backsLarge]
  | .mk n c u :: r => by rw [backsLarge, backsLarge_any l r]; rfl
end Go.Proofs.YtfjlglefodndjaaDoor

namespace Go.Proofs.YtfjlglefodndjaaDoor

/-! The plain law of the reference's Order. -/
structure RInv (l : List Dfn) (o : List Nat) : Prop where
  nodup : o.Nodup
  sub : ∀ i ∈ o, isDef l i = true
  after : After l o
theorem RInv.start (l : List Dfn) : RInv l [] := ⟨List.nodup_nil, by simp, fun p i h => by simp at h⟩
theorem RInv.snoc {l : List Dfn} {o : List Nat} {p : Nat} (h : RInv l o) (hd : isDef l p = true) (hp : p ∉ o) (hm : missL l o p = []) : RInv l (o ++ [p]) where
  nodup := List.nodup_append.2 ⟨h.nodup, by simp, fun a ha b hb e => hp (by simp at hb; rw [← hb, ← e]; exact ha)⟩
  sub i hi := by
    rcases List.mem_append.1 hi with h1 | h1
    · exact h.sub i h1
    · simp at h1; rw [h1]; exact hd
  after := h.after.snoc hm
theorem RInv.le {l : List Dfn} {o : List Nat} (h : RInv l o) : o.length ≤ countOf l := nodup_le _ _ h.nodup fun i hi => mem_defs.2 (h.sub i hi)
theorem RInv.lt {l : List Dfn} {o : List Nat} {p : Nat} (h : RInv l o) (hd : isDef l p = true) (hp : p ∉ o) : o.length < countOf l := by
  have := nodup_le (p :: o) ((List.range l.length).filter (isDef l)) (List.nodup_cons.2 ⟨hp, h.nodup⟩) (fun i hi => by
    rcases List.mem_cons.1 hi with rfl | hi
    · exact mem_defs.2 hd
    · exact mem_defs.2 (h.sub i hi))
  simp only [List.length_cons] at this
  unfold countOf
  omega
theorem RInv.done {l : List Dfn} {o : List Nat} (h : RInv l o) (ha : ∀ i, isDef l i = true → i ∈ o) : Topo l o := ⟨h.nodup, fun i => ⟨h.sub i, ha i⟩, h.after⟩
theorem RInv.stuck {l : List Dfn} {o : List Nat} (hs : ∀ i, isDef l i = true → i ∉ o → missL l o i ≠ []) {p : Nat} (hd : isDef l p = true) (hp : p ∉ o) : ¬ Sorts l := by
  rintro ⟨q, hq⟩
  have key : ∀ (p i : Nat), q[p]? = some i → i ∈ o := by
    intro p
    induction p using Nat.strongRecOn with
    | ind p ih =>
      intro i hi
      refine Classical.byContradiction fun hio => ?_
      refine hs i ((hq.all i).1 (List.mem_of_getElem? hi)) hio (miss_nil.2 fun s hs d hd => ?_)
      obtain ⟨k, hk⟩ := List.mem_iff_getElem?.1 (hq.after p i hi s hs d hd)
      have hkp : k < p := by
        rcases Nat.lt_or_ge k p with h' | h'
        · exact h'
        · rw [List.getElem?_eq_none (by simp; omega)] at hk; cases hk
      rw [List.getElem?_take, if_pos hkp] at hk
      exact ih k hkp d hk
  obtain ⟨k, hk⟩ := List.mem_iff_getElem?.1 ((hq.all p).2 hd)
  exact hp (key k p hk)
end Go.Proofs.YtfjlglefodndjaaDoor
