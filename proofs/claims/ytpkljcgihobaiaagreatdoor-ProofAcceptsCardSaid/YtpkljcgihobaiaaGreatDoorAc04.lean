/-
  Texts of the claim, joined: Tokens, Exs, Clause, Cla, Schema, Ref1, Slim, Ref2.
-/
import Derived.Test.YtpkljcgihobaiaaGreatDoorAc03
namespace Go.Proofs.YtpkljcgihobaiaaGreatDoor
open Go.RowKit
def exV0 : ExV := ⟨0, ⟨#[]⟩, none, 0, 0, 0, 0, none, 0, 0⟩
theorem Chg.sub {N : List Nat} {w w' : World} (h : Chg N w w') : Sub (mask w N) (mask w' N) := mask_sub_mask fun k hk hn => ⟨hn, h.block k hk hn⟩
theorem mask_less {M N : List Nat} (w : World) (h : ∀ y ∈ M, y ∈ N) : Sub (mask w N) (mask w M) := mask_sub_mask fun k _ hn => ⟨fun h' => hn (h k h'), rfl⟩
open Go.RowKit
def ExsR (w : World) (l : List Ex) (xs : List ExV) : Prop := l.length = xs.length /\ ∀ i (h1 : i < l.length) (h2 : i < xs.length), IsEx w l[i] xs[i].val
theorem ExsR.mono {w w' : World} {l : List Ex} {xs : List ExV} (h : ExsR w l xs) (hs : Sub w w') : ExsR w' l xs := ⟨h.1, fun i h1 h2 => (h.2 i h1 h2).mono hs⟩
theorem ExsR.nil (w : World) : ExsR w [] [] := ⟨rfl, fun i h => by simp at h⟩
theorem ExsR.snoc {w : World} {l : List Ex} {xs : List ExV} {e : Ex} {x : ExV} (h : ExsR w l xs) (hx : IsEx w e x.val) : ExsR w (l ++ [e]) (xs ++ [x]) := by
 refine ⟨by simp [h.1], fun i h1 h2 => ?_⟩
 by_cases hi : i < l.length
 ·have hi2 : i < xs.length := by rw [<- h.1]; exact hi
  simp only [List.getElem_append_left hi, List.getElem_append_left hi2]
  exact h.2 i hi hi2
 ·have e1 : i = l.length := by simp at h1; omega
  subst e1
  simp only [List.getElem_append_right (Nat.le_refl _), List.getElem_append_right (show xs.length <= l.length by rw [h.1]; exact Nat.le_refl _), Nat.sub_self, List.getElem_cons_zero]
  simpa [h.1] using hx
theorem exV_len (x : ExV) : x.cells.length = 6 := rfl
theorem exs_owns {w : World} {M : List Nat} {base : Nat} {v : Value} {l : List Ex} {xs : List ExV} (h : w.ownsRow base 26 6 v l.length (xs.flatMap ExV.cells)) (hM : ∀ k, v.ownBlock = some k -> k ∉ M) (hR : ExsR (mask w M) l xs) :
  ∃ a c, v = .slice a l.length c /\ l.length <= c /\ OkAddr a c /\ ExsD (mask w M) l a := by
 rw [hR.1] at h
 obtain ⟨a, c, rfl, hr⟩ := IsRows.of_owns exV_len h
 refine ⟨a, c, by rw [hR.1], by rw [hR.1]; exact hr.2.1, hr.2.2.1, ?_⟩
 match l, hR with
 | [], _ => unfold ExsD; trivial
 | e :: r, hR =>
  obtain ⟨b, off, rfl, h1⟩ := hr.2.2.2 0 (by rw [<- hR.1]; simp)
  refine ExsD.of (e :: r) off xs hR.1 fun i h3 h4 => ⟨fun j hj => ?_, hR.2 i h3 h4⟩
  obtain ⟨b', off', e1, h5⟩ := hr.2.2.2 i h4
  simp only [Option.some.injEq, Addr.mk.injEq, and_true] at e1
  obtain ⟨rfl, rfl⟩ := e1
  rw [mask_cell, if_neg (hM _ rfl), h5 j (by rw [exV_len]; exact hj), List.getElem?_eq_getElem (by rw [exV_len]; exact hj)]
theorem exs_one {w : World} {M : List Nat} {g : Nat} {e : Ex} {x : ExV} {t : TypeId} (h : w.heap[g]? = some (.cells x.cells.toArray t (0, 0))) (hM : g ∉ M) (hx : IsEx (mask w M) e x.val) : ExsD (mask w M) [e] (some ⟨g, 0, none⟩) := by
 refine ExsD.of [e] 0 [x] rfl fun i h1 h2 => ?_
 obtain rfl : i = 0 := by simp at h1; exact h1
 refine ⟨fun j hj => ?_, hx⟩
 rw [mask_cell, if_neg hM, blk_cell h]
 simp
theorem isEx_not {w : World} {M : List Nat} {g : Nat} {e : Ex} {x : ExV} {t : TypeId} (h : w.heap[g]? = some (.cells x.cells.toArray t (0, 0))) (hM : g ∉ M) (hx : IsEx (mask w M) e x.val) :
  IsEx (mask w M) (.mk 6 ⟨#[]⟩ [] 0 0 [e]) (exV 6 ⟨#[]⟩ none 0 0 0 0 (some ⟨g, 0, none⟩) 1 1) :=
 IsEx.mk ⟨rfl, by omega, Or.inl ⟨rfl, rfl⟩, fun i hi => by simp at hi⟩ rfl (by simp) (Or.inr ⟨g, 0, rfl⟩) (exs_one h hM hx)
def put6 (w : World) (B : Nat) (x : ExV) : World := (((((w.setCell ⟨B, 0, none⟩ (.int .i64 x.op)).setCell ⟨B, 1, none⟩ (.string x.name)).setCell ⟨B, 2, none⟩ (.slice x.aw x.nw x.cw)).setCell ⟨B, 3, none⟩ (.int .i64 x.lo)).setCell ⟨B, 4, none⟩ (.int .i64 x.hi)).setCell ⟨B, 5, none⟩ (.slice x.aa x.na x.ca)
theorem put6_chg (w : World) (B : Nat) (x : ExV) {N : List Nat} (h : B ∈ N) : Chg N w (put6 w B x) := by
 unfold put6
 repeat (with_reducible (refine Chg.setCell ?_ ?_ _))
 exact Chg.refl _ _
 all_goals exact Or.inl h
theorem put6_size (w : World) (B : Nat) (x : ExV) : (put6 w B x).heap.size = w.heap.size := by simp [put6]
open Go.RowKit
structure ClV where
 kind : Int
 name : ByteArray
 x : ExV
 au : Option Addr
 nu : Nat
 cu : Nat
 amount : Int
def ClV.cells (c : ClV) : List Value := [.int .i64 c.kind, .string c.name, .int .i64 c.x.op, .string c.x.name, .slice c.x.aw c.x.nw c.x.cw, .int .i64 c.x.lo, .int .i64 c.x.hi, .slice c.x.aa c.x.na c.x.ca, .slice c.au c.nu c.cu, .int .i64 c.amount]
theorem ClV.len (c : ClV) : c.cells.length = 10 := rfl
structure Cl where
 kind : Int
 name : ByteArray
 cond : Ex
def IsCls (w : World) (l : List Cl) (a : Option Addr) (n c : Nat) : Prop :=
 ∃ vs : List ClV, IsRows w 10 ClV.cells vs a n c /\ l.length = vs.length /\ ∀ i (h1 : i < l.length) (h2 : i < vs.length), vs[i].kind = l[i].kind /\ vs[i].name = l[i].name /\ IsEx w l[i].cond vs[i].x.val
theorem IsCls.mono {w w' : World} {l : List Cl} {a : Option Addr} {n c : Nat} (h : IsCls w l a n c) (hs : Sub w w') : IsCls w' l a n c := by
 obtain ⟨vs, h1, h2, h3⟩ := h
 exact ⟨vs, h1.mono hs, h2, fun i hi hv => ⟨(h3 i hi hv).1, (h3 i hi hv).2.1, (h3 i hi hv).2.2.mono hs⟩⟩
theorem IsCls.ext {w w' : World} {l : List Cl} {a : Option Addr} {n c : Nat} (h : IsCls w l a n c) (he : Ext w w') : IsCls w' l a n c := h.mono he.sub
theorem IsCls.len {w : World} {l : List Cl} {a : Option Addr} {n c : Nat} (h : IsCls w l a n c) : n = l.length := by
 obtain ⟨vs, h1, h2, _⟩ := h
 rw [h2]; exact h1.1
theorem IsCls.at {w : World} {l : List Cl} {a : Option Addr} {n c : Nat} (h : IsCls w l a n c) {k : Nat} (hk : k < l.length) : ∃ (b off : Nat) (v : ClV), a = some ⟨b, off, none⟩ /\ v.kind = l[k].kind /\ v.name = l[k].name /\ IsEx w l[k].cond v.x.val /\ ∀ j (hj : j < v.cells.length), w.cell? ⟨b, off + k * 10 + j, none⟩ = some v.cells[j] := by
 obtain ⟨vs, h1, h2, h3⟩ := h
 have hk' : k < vs.length := by omega
 obtain ⟨b, off, e, hc⟩ := h1.2.2.2 k hk'
 obtain ⟨q1, q2, q3⟩ := h3 k hk hk'
 exact ⟨b, off, vs[k], e, q1, q2, q3, hc⟩
theorem IsCls.at10 {w : World} {l : List Cl} {a : Option Addr} {n c : Nat} (h : IsCls w l a n c) {k : Nat} (hk : k < l.length) : ∃ (b off : Nat) (v : ClV), a = some ⟨b, off, none⟩ /\ v.kind = l[k].kind /\ v.name = l[k].name /\ IsEx w l[k].cond v.x.val /\
  w.cell? ⟨b, off + k * 10, none⟩ = some (.int .i64 v.kind) /\ w.cell? ⟨b, off + k * 10 + 1, none⟩ = some (.string v.name) /\ w.cell? ⟨b, off + k * 10 + 2, none⟩ = some (.int .i64 v.x.op) /\ w.cell? ⟨b, off + k * 10 + 3, none⟩ = some (.string v.x.name) /\
  w.cell? ⟨b, off + k * 10 + 4, none⟩ = some (.slice v.x.aw v.x.nw v.x.cw) /\ w.cell? ⟨b, off + k * 10 + 5, none⟩ = some (.int .i64 v.x.lo) /\ w.cell? ⟨b, off + k * 10 + 6, none⟩ = some (.int .i64 v.x.hi) /\ w.cell? ⟨b, off + k * 10 + 7, none⟩ = some (.slice v.x.aa v.x.na v.x.ca) /\
  w.cell? ⟨b, off + k * 10 + 8, none⟩ = some (.slice v.au v.nu v.cu) /\ w.cell? ⟨b, off + k * 10 + 9, none⟩ = some (.int .i64 v.amount) := by
 obtain ⟨b, off, v, e, q1, q2, q3, hc⟩ := h.at hk
 exact ⟨b, off, v, e, q1, q2, q3, hc 0 (by simp [ClV.len]), hc 1 (by simp [ClV.len]), hc 2 (by simp [ClV.len]), hc 3 (by simp [ClV.len]), hc 4 (by simp [ClV.len]), hc 5 (by simp [ClV.len]), hc 6 (by simp [ClV.len]), hc 7 (by simp [ClV.len]), hc 8 (by simp [ClV.len]), hc 9 (by simp [ClV.len])⟩
open Go.RowKit
inductive Wb where
 | mk (name : ByteArray) (cond : Ex) (unl : List Wb)
def Wb.name : Wb -> ByteArray | .mk n _ _ => n
def Wb.cond : Wb -> Ex | .mk _ c _ => c
def Wb.unl : Wb -> List Wb | .mk _ _ u => u
structure Cla where
 kind : Int
 name : ByteArray
 cond : Ex
 unl : List Wb
 amount : Int
def Cla.cl (c : Cla) : Cl := ⟨c.kind, c.name, c.cond⟩
structure WbV where
 name : ByteArray
 x : ExV
 au : Option Addr
 nu : Nat
 cu : Nat
def WbV.cells (v : WbV) : List Value := [.string v.name, .int .i64 v.x.op, .string v.x.name, .slice v.x.aw v.x.nw v.x.cw, .int .i64 v.x.lo, .int .i64 v.x.hi, .slice v.x.aa v.x.na v.x.ca, .slice v.au v.nu v.cu]
theorem WbV.len (c : WbV) : c.cells.length = 8 := rfl
def RowAt (w : World) (b off : Nat) (cs : List Value) : Prop := ∀ j (h : j < cs.length), w.cell? ⟨b, off + j, none⟩ = some cs[j]
theorem RowAt.mono {w w' : World} {b off : Nat} {cs : List Value} (h : RowAt w b off cs) (hs : Sub w w') : RowAt w' b off cs := fun j hj => hs _ _ (h j hj)
mutual
def WbD (w : World) : Wb -> Option Addr -> Nat -> Nat -> Prop
 | .mk _ _ unl, au, nu, cu => nu = unl.length /\ nu <= cu /\ OkAddr au cu /\ WbsD w unl au
def WbsD (w : World) : List Wb -> Option Addr -> Prop
 | [], _ => True
 | .mk name cond unl :: r, a => ∃ b off, a = some ⟨b, off, none⟩ /\ (∃ v : WbV, v.name = name /\ RowAt w b off v.cells /\ IsEx w cond v.x.val /\ v.nu = unl.length /\ v.nu <= v.cu /\ OkAddr v.au v.cu /\ WbsD w unl v.au) /\ WbsD w r (some ⟨b, off + 8, none⟩)
end
mutual
theorem WbD.mono {w w' : World} (he : Sub w w') : (e : Wb) -> (au : Option Addr) -> (nu cu : Nat) -> WbD w e au nu cu -> WbD w' e au nu cu
 | .mk name cond unl, au, nu, cu, h => by
  unfold WbD at h ⊢
  exact ⟨h.1, h.2.1, h.2.2.1, WbsD.mono he unl au h.2.2.2⟩
theorem WbsD.mono {w w' : World} (he : Sub w w') : (l : List Wb) -> (a : Option Addr) -> WbsD w l a -> WbsD w' l a
 | [], _, _ => by unfold WbsD; trivial
 | .mk name cond unl :: r, a, h => by
  unfold WbsD at h ⊢
  obtain ⟨b, off, rfl, ⟨v, h0, h1, h2, h3, h4, h5, h6⟩, hr⟩ := h
  exact ⟨b, off, rfl, ⟨v, h0, h1.mono he, h2.mono he, h3, h4, h5, WbsD.mono he unl v.au h6⟩, WbsD.mono he r _ hr⟩
end
theorem WbsD.at {w : World} : (l : List Wb) -> (a : Option Addr) -> WbsD w l a -> (k : Nat) -> (hk : k < l.length) ->
  ∃ b off, a = some ⟨b, off, none⟩ /\ ∃ v : WbV, v.name = l[k].name /\ RowAt w b (off + k * 8) v.cells /\ IsEx w l[k].cond v.x.val /\ v.nu = l[k].unl.length /\ v.nu <= v.cu /\ OkAddr v.au v.cu /\ WbsD w l[k].unl v.au
 | [], _, _, k, hk => by simp at hk
 | .mk name cond unl :: r, a, h, 0, _ => by
  unfold WbsD at h
  obtain ⟨b, off, rfl, ⟨v, h0, h1, h2, h3, h4, h5, h6⟩, hr⟩ := h
  refine ⟨b, off, rfl, v, ?_⟩
  simp only [Nat.zero_mul, Nat.add_zero]
  exact ⟨h0, h1, h2, h3, h4, h5, h6⟩
 | .mk name cond unl :: r, a, h, k + 1, hk => by
  unfold WbsD at h
  obtain ⟨b, off, rfl, _, hr⟩ := h
  obtain ⟨b', off', e1, rest⟩ := WbsD.at r _ hr k (by simpa using hk)
  simp at e1
  obtain ⟨rfl, rfl⟩ := e1
  have e1 : off + 8 + k * 8 = off + (k + 1) * 8 := by omega
  rw [e1] at rest
  exact ⟨b, off, rfl, by simpa using rest⟩
theorem WbsD.of {w : World} {b : Nat} : (l : List Wb) -> (off : Nat) -> (vs : List WbV) -> l.length = vs.length -> (∀ i (h1 : i < l.length) (h2 : i < vs.length), vs[i].name = l[i].name /\ RowAt w b (off + i * 8) vs[i].cells /\ IsEx w l[i].cond vs[i].x.val /\ vs[i].nu = l[i].unl.length /\ vs[i].nu <= vs[i].cu /\ OkAddr vs[i].au vs[i].cu /\ WbsD w l[i].unl vs[i].au) -> WbsD w l (some ⟨b, off, none⟩)
 | [], _, _, _, _ => by unfold WbsD; trivial
 | .mk name cond unl :: r, off, [], hl, _ => by simp at hl
 | .mk name cond unl :: r, off, v :: vs, hl, h => by
  unfold WbsD
  obtain ⟨h0, h1, h2, h3, h4, h5, h6⟩ := h 0 (by simp) (by simp)
  simp only [List.getElem_cons_zero, Nat.zero_mul, Nat.add_zero] at h0 h1 h2 h3 h4 h5 h6
  refine ⟨b, off, rfl, ⟨v, h0, h1, h2, h3, h4, h5, h6⟩, WbsD.of r (off + 8) vs (by simpa using hl) fun i g1 g2 => ?_⟩
  have := h (i + 1) (by simpa using g1) (by simpa using g2)
  have e1 : off + (i + 1) * 8 = off + 8 + i * 8 := by omega
  rw [e1] at this
  simpa using this
def IsCla (w : World) (c : Cla) (v : ClV) : Prop := v.kind = c.kind /\ v.name = c.name /\ IsEx w c.cond v.x.val /\ v.nu = c.unl.length /\ v.nu <= v.cu /\ OkAddr v.au v.cu /\ WbsD w c.unl v.au /\ v.amount = c.amount
theorem IsCla.mono {w w' : World} {c : Cla} {v : ClV} (h : IsCla w c v) (hs : Sub w w') : IsCla w' c v :=
 ⟨h.1, h.2.1, h.2.2.1.mono hs, h.2.2.2.1, h.2.2.2.2.1, h.2.2.2.2.2.1, WbsD.mono hs _ _ h.2.2.2.2.2.2.1, h.2.2.2.2.2.2.2⟩
def IsClas (w : World) (l : List Cla) (a : Option Addr) (n c : Nat) : Prop :=
 ∃ vs : List ClV, IsRows w 10 ClV.cells vs a n c /\ l.length = vs.length /\ ∀ i (h1 : i < l.length) (h2 : i < vs.length), IsCla w l[i] vs[i]
theorem IsClas.mono {w w' : World} {l : List Cla} {a : Option Addr} {n c : Nat} (h : IsClas w l a n c) (hs : Sub w w') : IsClas w' l a n c := by
 obtain ⟨vs, h1, h2, h3⟩ := h
 exact ⟨vs, h1.mono hs, h2, fun i hi hv => (h3 i hi hv).mono hs⟩
theorem IsClas.ext {w w' : World} {l : List Cla} {a : Option Addr} {n c : Nat} (h : IsClas w l a n c) (he : Ext w w') : IsClas w' l a n c := h.mono he.sub
theorem IsClas.len {w : World} {l : List Cla} {a : Option Addr} {n c : Nat} (h : IsClas w l a n c) : n = l.length := by
 obtain ⟨vs, h1, h2, _⟩ := h
 rw [h2]; exact h1.1
theorem IsClas.cls {w : World} {l : List Cla} {a : Option Addr} {n c : Nat} (h : IsClas w l a n c) : IsCls w (l.map Cla.cl) a n c := by
 obtain ⟨vs, h1, h2, h3⟩ := h
 refine ⟨vs, h1, by simpa using h2, fun i hi hv => ?_⟩
 have hi' : i < l.length := by simpa using hi
 have := h3 i hi' hv
 simp only [List.getElem_map, Cla.cl]
 exact ⟨this.1, this.2.1, this.2.2.1⟩
theorem IsClas.take {w : World} {l : List Cla} {a : Option Addr} {n c : Nat} (h : IsClas w l a n c) {k : Nat} (hk : k <= n) : IsClas w (l.take k) a k c := by
 have hn := h.len
 obtain ⟨vs, ⟨g1, g2, g3, g4⟩, h2, h3⟩ := h
 refine ⟨vs.take k, ⟨by simp; omega, by omega, g3, fun i hi => ?_⟩, by simp [h2], fun i hi hv => ?_⟩
 ·have hi' : i < vs.length := by simp at hi; omega
  obtain ⟨b, off, e, hc⟩ := g4 i hi'
  refine ⟨b, off, e, fun j hj => ?_⟩
  simp only [List.getElem_take] at hj ⊢
  exact hc j hj
 ·simp only [List.getElem_take]
  exact h3 i (by simp at hi; omega) (by simp at hv; omega)
theorem IsClas.at {w : World} {l : List Cla} {a : Option Addr} {n c : Nat} (h : IsClas w l a n c) {k : Nat} (hk : k < l.length) : ∃ (b off : Nat) (v : ClV), a = some ⟨b, off, none⟩ /\ IsCla w l[k] v /\ RowAt w b (off + k * 10) v.cells := by
 obtain ⟨vs, h1, h2, h3⟩ := h
 have hk' : k < vs.length := by omega
 obtain ⟨b, off, e, hc⟩ := h1.2.2.2 k hk'
 exact ⟨b, off, vs[k], e, h3 k hk hk', hc⟩
theorem RowAt.ten {w : World} {b off : Nat} {v : ClV} (h : RowAt w b off v.cells) : w.cell? ⟨b, off, none⟩ = some (.int .i64 v.kind) /\ w.cell? ⟨b, off + 1, none⟩ = some (.string v.name) /\ w.cell? ⟨b, off + 2, none⟩ = some (.int .i64 v.x.op) /\ w.cell? ⟨b, off + 3, none⟩ = some (.string v.x.name) /\
  w.cell? ⟨b, off + 4, none⟩ = some (.slice v.x.aw v.x.nw v.x.cw) /\ w.cell? ⟨b, off + 5, none⟩ = some (.int .i64 v.x.lo) /\ w.cell? ⟨b, off + 6, none⟩ = some (.int .i64 v.x.hi) /\ w.cell? ⟨b, off + 7, none⟩ = some (.slice v.x.aa v.x.na v.x.ca) /\
  w.cell? ⟨b, off + 8, none⟩ = some (.slice v.au v.nu v.cu) /\ w.cell? ⟨b, off + 9, none⟩ = some (.int .i64 v.amount) :=
 ⟨h 0 (by simp [ClV.len]), h 1 (by simp [ClV.len]), h 2 (by simp [ClV.len]), h 3 (by simp [ClV.len]), h 4 (by simp [ClV.len]), h 5 (by simp [ClV.len]), h 6 (by simp [ClV.len]), h 7 (by simp [ClV.len]), h 8 (by simp [ClV.len]), h 9 (by simp [ClV.len])⟩
theorem RowAt.eight {w : World} {b off : Nat} {v : WbV} (h : RowAt w b off v.cells) : w.cell? ⟨b, off, none⟩ = some (.string v.name) /\ w.cell? ⟨b, off + 1, none⟩ = some (.int .i64 v.x.op) /\ w.cell? ⟨b, off + 2, none⟩ = some (.string v.x.name) /\
  w.cell? ⟨b, off + 3, none⟩ = some (.slice v.x.aw v.x.nw v.x.cw) /\ w.cell? ⟨b, off + 4, none⟩ = some (.int .i64 v.x.lo) /\ w.cell? ⟨b, off + 5, none⟩ = some (.int .i64 v.x.hi) /\ w.cell? ⟨b, off + 6, none⟩ = some (.slice v.x.aa v.x.na v.x.ca) /\ w.cell? ⟨b, off + 7, none⟩ = some (.slice v.au v.nu v.cu) :=
 ⟨h 0 (by simp [WbV.len]), h 1 (by simp [WbV.len]), h 2 (by simp [WbV.len]), h 3 (by simp [WbV.len]), h 4 (by simp [WbV.len]), h 5 (by simp [WbV.len]), h 6 (by simp [WbV.len]), h 7 (by simp [WbV.len])⟩
open Go.RowKit
structure Attr where
 name : ByteArray
 kind : Int
 words : List ByteArray
 lo : Int
 hi : Int
def AttrAt (w : World) (x : Attr) (b off : Nat) : Prop := ∃ aw nw cw, w.cell? ⟨b, off, none⟩ = some (.string x.name) /\ w.cell? ⟨b, off + 1, none⟩ = some (.int .i64 x.kind) /\ w.cell? ⟨b, off + 2, none⟩ = some (.slice aw nw cw) /\ w.cell? ⟨b, off + 3, none⟩ = some (.int .i64 x.lo) /\
 w.cell? ⟨b, off + 4, none⟩ = some (.int .i64 x.hi) /\ IsStrs w x.words aw nw cw
def IsSchema (w : World) (l : List Attr) (v : Value) : Prop := ∃ a n c, v = .agg #[.slice a n c] /\ n = l.length /\ n <= c /\ OkAddr a c /\ ∀ i (h : i < l.length), ∃ b off, a = some ⟨b, off, none⟩ /\ AttrAt w l[i] b (off + i * 5)
theorem AttrAt.mono {w w' : World} {x : Attr} {b off : Nat} (h : AttrAt w x b off) (hs : Sub w w') : AttrAt w' x b off := by
 obtain ⟨aw, nw, cw, h0, h1, h2, h3, h4, h5⟩ := h
 exact ⟨aw, nw, cw, hs _ _ h0, hs _ _ h1, hs _ _ h2, hs _ _ h3, hs _ _ h4, h5.mono hs⟩
theorem IsSchema.mono {w w' : World} {l : List Attr} {v : Value} (h : IsSchema w l v) (hs : Sub w w') : IsSchema w' l v := by
 obtain ⟨a, n, c, h1, h2, h3, h4, h5⟩ := h
 exact ⟨a, n, c, h1, h2, h3, h4, fun i hi => by obtain ⟨b, off, e1, e2⟩ := h5 i hi; exact ⟨b, off, e1, e2.mono hs⟩⟩
def aPeril : Attr := ⟨⟨#[112, 101, 114, 105, 108]⟩, 1, [⟨#[102, 105, 114, 101]⟩, ⟨#[102, 108, 111, 111, 100]⟩, ⟨#[119, 105, 110, 100]⟩, ⟨#[116, 104, 101, 102, 116]⟩], 0, 0⟩
def schemas : List (List Attr) := [[aPeril, ⟨⟨#[115, 116, 111, 114, 101, 121, 115]⟩, 2, [], 1, 9⟩, ⟨⟨#[97, 108, 97, 114, 109]⟩, 3, [], 0, 0⟩],
 [⟨⟨#[110]⟩, 2, [], -5, 20⟩],
 [⟨⟨#[97]⟩, 3, [], 0, 0⟩, ⟨⟨#[114, 111, 108, 101]⟩, 1, [⟨#[99, 114, 101, 119]⟩, ⟨#[103, 117, 101, 115, 116]⟩], 0, 0⟩, ⟨⟨#[98]⟩, 3, [], 0, 0⟩],
 [⟨⟨#[110]⟩, 2, [], -1000000000, 1000000000⟩, ⟨⟨#[116]⟩, 3, [], 0, 0⟩],
 [⟨⟨#[111, 110, 101]⟩, 1, [⟨#[111, 110, 108, 121]⟩], 0, 0⟩, aPeril, ⟨⟨#[110]⟩, 2, [], 0, 6⟩, ⟨⟨#[116]⟩, 3, [], 0, 0⟩],
 [⟨⟨#[116]⟩, 3, [], 0, 0⟩]]
theorem within_calls (x n : Int) (w : World) (hn : 0 < n) (hn2 : n <= 1000000000000000000) : Calls Tryz.prog 26 #[.int .i64 x, .int .i64 n] w (fun e w' => ∃ r : Int, e = .returned (.int .i64 r) /\ 0 <= r /\ r < n /\ w = w') := by
 go_enter Tryz.func26, Tryz.ntmps26
 go_wp2_with fail
 go_ret
 have a1 := Int.tmod_lt_of_pos x hn
 have a5 := Int.lt_tmod_of_pos x hn
 rw [IntWalk.wrap64_in (x.tmod n + n) (by omega)]
 exact ⟨_, rfl, Int.tmod_nonneg n (by omega), Int.tmod_lt_of_pos (x.tmod n + n) hn, rfl⟩
theorem isStrs_set {w : World} {l : List ByteArray} {g n c : Nat} (h : IsStrs w l (some ⟨g, 0, none⟩) n c) {b : Nat} (hb : g ≠ b) (u : Value) (o : Obj) : IsStrs ((w.setCell ⟨b, 0, none⟩ u).alloc o) l (some ⟨g, 0, none⟩) n c := by
 refine ⟨h.1, h.2.1, h.2.2.1, fun i hi => ?_⟩
 obtain ⟨b', off, e1, e2⟩ := h.2.2.2 i hi
 simp only [Option.some.injEq, Addr.mk.injEq, and_true] at e1
 obtain ⟨rfl, rfl⟩ := e1
 refine ⟨g, 0, rfl, Ext.cell ((Ext.refl _).alloc o) ?_⟩
 rw [World.cell?_setCell_other _ _ _ _ (fun e => hb (by injection e with e1; exact e1.symm))]
 exact e2
def PerilQ (w : World) (e : Ending) (w' : World) : Prop := ∃ g, e = .returned (.agg #[.string aPeril.name, .int .i64 1, .slice (some ⟨g, 0, none⟩) 4 4, .int .i64 0, .int .i64 0]) /\ IsStrs w' aPeril.words (some ⟨g, 0, none⟩) 4 4 /\ Ext w w' /\ w.heap.size < g
theorem isStrs_block {w : World} {g : Nat} {l : List ByteArray} {t : TypeId} (h : w.heap[g]? = some (.cells (l.map Value.string).toArray t (0, 0))) {n : Nat} (hn : n = l.length) : IsStrs w l (some ⟨g, 0, none⟩) n n := by
 subst hn
 refine ⟨rfl, Nat.le_refl _, Or.inr ⟨g, 0, rfl⟩, fun i hi => ⟨g, 0, rfl, ?_⟩⟩
 rw [Nat.zero_add, blk_cell h]
 simp [hi]
structure AttrV where
 x : Attr
 a : Option Addr
 n : Nat
 c : Nat
def AttrV.cells (v : AttrV) : List Value := [.string v.x.name, .int .i64 v.x.kind, .slice v.a v.n v.c, .int .i64 v.x.lo, .int .i64 v.x.hi]
theorem isStrs_nil (w : World) : IsStrs w [] none 0 0 := ⟨rfl, by omega, Or.inl ⟨rfl, rfl⟩, fun i hi => by simp at hi⟩
theorem isSchema_block {w : World} {g : Nat} {avs : List AttrV} {t : TypeId} (h : w.heap[g]? = some (.cells (avs.flatMap AttrV.cells).toArray t (0, 0))) {n : Nat} (hn : n = avs.length) (hs : ∀ v ∈ avs, IsStrs w v.x.words v.a v.n v.c) : IsSchema w (avs.map (·.x)) (.agg #[.slice (some ⟨g, 0, none⟩) n n]) := by
 subst hn
 refine ⟨some ⟨g, 0, none⟩, _, _, rfl, by simp, Nat.le_refl _, Or.inr ⟨g, 0, rfl⟩, fun i hi => ⟨g, 0, rfl, ?_⟩⟩
 have hi' : i < avs.length := by simpa using hi
 have key : ∀ j (hj : j < 5), w.cell? ⟨g, i * 5 + j, none⟩ = some ((avs[i].cells)[j]'(by simp [AttrV.cells]; omega)) := by
  intro j hj
  rw [blk_cell h]
  have := flatMap_at AttrV.cells 5 (fun _ => rfl) avs i hi' j (by simp [AttrV.cells]; omega)
  simpa using this
 have e : (avs.map (·.x))[i] = avs[i].x := by simp
 rw [e, Nat.zero_add]
 exact ⟨avs[i].a, avs[i].n, avs[i].c, key 0 (by omega), key 1 (by omega), key 2 (by omega), key 3 (by omega), key 4 (by omega), hs _ (List.getElem_mem hi')⟩
set_option maxRecDepth 100000 in
theorem peril_calls (w : World) : Calls Tryz.prog 45 #[] w (PerilQ w) := by
 go_enter Tryz.func45, Tryz.ntmps45
 go_wp2_with fail
 refine bodyPost_ret (v := .agg #[.string aPeril.name, .int .i64 1, .slice (some ⟨w.heap.size + 1, 0, none⟩) 4 4, .int .i64 0, .int .i64 0]) (by simp [results, Tryz.results45, go_sem, aPeril]) rfl ?_
 refine ⟨_, rfl, isStrs_block (l := aPeril.words) (t := 9) ?_ rfl, ((Ext.refl w).alloc _).alloc _, by omega⟩
 have := alloc_new (w.alloc (.cells #[.string aPeril.name, .int .i64 1, .slice (some ⟨w.heap.size + 1, 0, none⟩) 4 4, .int .i64 0, .int .i64 0] 85)) (.cells (aPeril.words.map Value.string).toArray 9)
 simpa [aPeril] using this
theorem isStrs_mask {w : World} {M : List Nat} {l : List ByteArray} {a : Option Addr} {n c : Nat} (h : IsStrs w l a n c) (ha : ∀ b off, a = some ⟨b, off, none⟩ -> b ∉ M) : IsStrs (mask w M) l a n c := by
 refine ⟨h.1, h.2.1, h.2.2.1, fun i hi => ?_⟩
 obtain ⟨b, off, e, hc⟩ := h.2.2.2 i hi
 exact ⟨b, off, e, by rw [mask_cell, if_neg (ha b off e)]; exact hc⟩
theorem mask_blk {w : World} {M : List Nat} {g : Nat} {o : Obj} (h : w.heap[g]? = some o) (hg : g ∉ M) : (mask w M).heap[g]? = some o := by
 unfold mask
 simp only [Array.getElem?_mapIdx, h, Option.map_some, hg, if_false]
def SchemaQ (M : List Nat) (w : World) (e : Ending) (w' : World) : Prop := ∃ l v, e = .returned v /\ l ∈ schemas /\ IsSchema (mask w' M) l v /\ Ext w w'
theorem schemaQ_mk {w W : World} {g n : Nat} {l : List Attr} {M : List Nat} (hM : ∀ y ∈ M, y < w.heap.size) (avs : List AttrV) {t : TypeId} (hg : w.heap.size <= g) (ha : ∀ v ∈ avs, ∀ b off, v.a = some ⟨b, off, none⟩ -> w.heap.size <= b) (h : W.heap[g]? = some (.cells (avs.flatMap AttrV.cells).toArray t (0, 0))) (hn : n = avs.length) (hl : avs.map (·.x) = l) (hm : l ∈ schemas) (hs : ∀ v ∈ avs, IsStrs W v.x.words v.a v.n v.c) (hx : Ext w W) :
  SchemaQ M w (.returned (.agg #[.slice (some ⟨g, 0, none⟩) n n])) W :=
 ⟨l, _, rfl, hm, hl ▸ isSchema_block (mask_blk h (fun hh => by have := hM _ hh; omega)) hn (fun v hv => isStrs_mask (hs v hv) (fun b off e hh => by have := hM _ hh; have := ha v hv b off e; omega)), hx⟩
set_option maxRecDepth 100000 in
set_option maxHeartbeats 1000000 in
theorem schema_calls (k : Int) (M : List Nat) (w : World) (hM : ∀ y ∈ M, y < w.heap.size) : Calls Tryz.prog 27 #[.int .i64 k] w (SchemaQ M w) := by
 have HMM := hI hM
 clear hM
 go_enter Tryz.func27, Tryz.ntmps27
 go_wp2_with fail
 refine (within_calls _ _ _ (by omega) (by omega)).mono ?_
 rintro e w' ⟨r, rfl, h0, h1, rfl⟩
 have h : r = 0 \/ r = 1 \/ r = 2 \/ r = 3 \/ r = 4 \/ r = 5 := by omega
 clear h0 h1
 rcases h with rfl | rfl | rfl | rfl | rfl | rfl
 ·go_wp2_with fail
  refine (peril_calls _).mono ?_
  rintro e w' ⟨g, rfl, hp, hx, hgn⟩
  simp at hgn
  have hwz := hx.size
  simp at hwz
  have hb := hx.blk (alloc_new w _)
  have hlt := blk_lt hb
  have c0 := blk_cell hb 0
  have cf := blk_free hb
  simp at c0
  have HX := hI (((Ext.refl w).alloc _).trans hx)
  have HP := hI hp
  clear hx hb hp
  go_wp2_with fail
  refine bodyPost_ret (v := .agg #[.slice (some ⟨w'.heap.size, 0, none⟩) 3 3]) (by simp [results, Tryz.results27, go_sem, c0, hlt]) rfl ?_
  refine schemaQ_mk HMM.out [⟨aPeril, some ⟨g, 0, none⟩, 4, 4⟩, ⟨⟨⟨#[115, 116, 111, 114, 101, 121, 115]⟩, 2, [], 1, 9⟩, none, 0, 0⟩, ⟨⟨⟨#[97, 108, 97, 114, 109]⟩, 3, [], 0, 0⟩, none, 0, 0⟩] (t := 85) (by omega) (by intro v hv b off he; simp only [List.mem_cons, List.not_mem_nil, or_false] at hv; (repeat' (rcases hv with rfl | hv)) <;> (try subst hv) <;> simp at he <;> omega) ?_ rfl rfl (by simp [schemas]) ?_ ?_
  ·simpa [AttrV.cells, aPeril] using alloc_new (w'.setCell ⟨w.heap.size, 0, none⟩ (.slice (some ⟨w'.heap.size, 0, none⟩) 3 3)) (.cells #[.string aPeril.name, .int .i64 1, .slice (some ⟨g, 0, none⟩) 4 4, .int .i64 0, .int .i64 0, .string ⟨#[115, 116, 111, 114, 101, 121, 115]⟩, .int .i64 2, .slice none 0 0, .int .i64 1, .int .i64 9, .string ⟨#[97, 108, 97, 114, 109]⟩, .int .i64 3, .slice none 0 0, .int .i64 0, .int .i64 0] 85)
  ·intro v hv
   simp only [List.mem_cons, List.not_mem_nil, or_false] at hv
   rcases hv with rfl | rfl | rfl
   ·exact isStrs_set HP.out (by omega) _ _
   ·exact isStrs_nil _
   ·exact isStrs_nil _
  ·exact (HX.out.setAbove (by simp) _).alloc _
 ·go_wp2_with fail
  refine bodyPost_ret (v := .agg #[.slice (some ⟨w.heap.size + 1, 0, none⟩) 1 1]) (by simp [results, Tryz.results27, go_sem]) rfl ?_
  refine schemaQ_mk HMM.out [⟨⟨⟨#[110]⟩, 2, [], -5, 20⟩, none, 0, 0⟩] (t := 85) (by omega) (by intro v hv b off he; simp only [List.mem_cons, List.not_mem_nil, or_false] at hv; (repeat' (rcases hv with rfl | hv)) <;> (try subst hv) <;> simp at he <;> omega) ?_ rfl rfl (by simp [schemas]) (by intro v hv; simp at hv; subst hv; exact isStrs_nil _) (((Ext.refl w).alloc _).alloc _)
  simpa [AttrV.cells] using alloc_new (w.alloc (.cells #[.slice (some ⟨w.heap.size + 1, 0, none⟩) 1 1] 31)) (.cells #[.string ⟨#[110]⟩, .int .i64 2, .slice none 0 0, .int .i64 (-5), .int .i64 20] 85)
 ·go_wp2_with fail
  refine bodyPost_ret (v := .agg #[.slice (some ⟨w.heap.size + 2, 0, none⟩) 3 3]) (by simp [results, Tryz.results27, go_sem]) rfl ?_
  refine schemaQ_mk HMM.out [⟨⟨⟨#[97]⟩, 3, [], 0, 0⟩, none, 0, 0⟩, ⟨⟨⟨#[114, 111, 108, 101]⟩, 1, [⟨#[99, 114, 101, 119]⟩, ⟨#[103, 117, 101, 115, 116]⟩], 0, 0⟩, some ⟨w.heap.size + 1, 0, none⟩, 2, 2⟩, ⟨⟨⟨#[98]⟩, 3, [], 0, 0⟩, none, 0, 0⟩] (t := 85) (by omega) (by intro v hv b off he; simp only [List.mem_cons, List.not_mem_nil, or_false] at hv; (repeat' (rcases hv with rfl | hv)) <;> (try subst hv) <;> simp at he <;> omega) ?_ rfl rfl (by simp [schemas]) ?_ ((((Ext.refl w).alloc _).alloc _).alloc _)
  ·simpa [AttrV.cells] using alloc_new ((w.alloc (.cells #[.slice (some ⟨w.heap.size + 2, 0, none⟩) 3 3] 31)).alloc (.cells #[.string ⟨#[99, 114, 101, 119]⟩, .string ⟨#[103, 117, 101, 115, 116]⟩] 9)) (.cells #[.string ⟨#[97]⟩, .int .i64 3, .slice none 0 0, .int .i64 0, .int .i64 0, .string ⟨#[114, 111, 108, 101]⟩, .int .i64 1, .slice (some ⟨w.heap.size + 1, 0, none⟩) 2 2, .int .i64 0, .int .i64 0, .string ⟨#[98]⟩, .int .i64 3, .slice none 0 0, .int .i64 0, .int .i64 0] 85)
  ·intro v hv
   simp only [List.mem_cons, List.not_mem_nil, or_false] at hv
   rcases hv with rfl | rfl | rfl
   ·exact isStrs_nil _
   ·refine isStrs_block (t := 9) (blk_alloc ?_) rfl
    simpa using alloc_new (w.alloc (.cells #[.slice (some ⟨w.heap.size + 2, 0, none⟩) 3 3] 31)) (.cells #[.string ⟨#[99, 114, 101, 119]⟩, .string ⟨#[103, 117, 101, 115, 116]⟩] 9)
   ·exact isStrs_nil _
 ·go_wp2_with fail
  refine bodyPost_ret (v := .agg #[.slice (some ⟨w.heap.size + 1, 0, none⟩) 2 2]) (by simp [results, Tryz.results27, go_sem]) rfl ?_
  refine schemaQ_mk HMM.out [⟨⟨⟨#[110]⟩, 2, [], -1000000000, 1000000000⟩, none, 0, 0⟩, ⟨⟨⟨#[116]⟩, 3, [], 0, 0⟩, none, 0, 0⟩] (t := 85) (by omega) (by intro v hv b off he; simp only [List.mem_cons, List.not_mem_nil, or_false] at hv; (repeat' (rcases hv with rfl | hv)) <;> (try subst hv) <;> simp at he <;> omega) ?_ rfl rfl (by simp [schemas]) ?_ (((Ext.refl w).alloc _).alloc _)
  ·simpa [AttrV.cells] using alloc_new (w.alloc (.cells #[.slice (some ⟨w.heap.size + 1, 0, none⟩) 2 2] 31)) (.cells #[.string ⟨#[110]⟩, .int .i64 2, .slice none 0 0, .int .i64 (-1000000000), .int .i64 1000000000, .string ⟨#[116]⟩, .int .i64 3, .slice none 0 0, .int .i64 0, .int .i64 0] 85)
  ·intro v hv
   simp only [List.mem_cons, List.not_mem_nil, or_false] at hv
   rcases hv with rfl | rfl <;> exact isStrs_nil _
 ·go_wp2_with fail
  refine (peril_calls _).mono ?_
  rintro e w' ⟨g, rfl, hp, hx, hgn⟩
  simp at hgn
  have hwz := hx.size
  simp at hwz
  have HO := hI (hx.blk (alloc_new (w.alloc (.cells #[.slice none 0 0] 31)) (.cells #[.string ⟨#[111, 110, 108, 121]⟩] 9)))
  have hb := hx.blk (blk_alloc (o' := .cells #[.string ⟨#[111, 110, 108, 121]⟩] 9) (alloc_new w (.cells #[.slice none 0 0] 31)))
  have hlt := blk_lt hb
  have c0 := blk_cell hb 0
  have cf := blk_free hb
  simp at c0
  have HX := hI ((((Ext.refl w).alloc _).alloc _).trans hx)
  have HP := hI hp
  clear hx hb hp
  go_wp2_with fail
  refine bodyPost_ret (v := .agg #[.slice (some ⟨w'.heap.size, 0, none⟩) 4 4]) (by simp [results, Tryz.results27, go_sem, c0, hlt]) rfl ?_
  refine schemaQ_mk HMM.out [⟨⟨⟨#[111, 110, 101]⟩, 1, [⟨#[111, 110, 108, 121]⟩], 0, 0⟩, some ⟨w.heap.size + 1, 0, none⟩, 1, 1⟩, ⟨aPeril, some ⟨g, 0, none⟩, 4, 4⟩, ⟨⟨⟨#[110]⟩, 2, [], 0, 6⟩, none, 0, 0⟩, ⟨⟨⟨#[116]⟩, 3, [], 0, 0⟩, none, 0, 0⟩] (t := 85) (by omega) (by intro v hv b off he; simp only [List.mem_cons, List.not_mem_nil, or_false] at hv; (repeat' (rcases hv with rfl | hv)) <;> (try subst hv) <;> simp at he <;> omega) ?_ rfl rfl (by simp [schemas]) ?_ ?_
  ·simpa [AttrV.cells, aPeril] using alloc_new (w'.setCell ⟨w.heap.size, 0, none⟩ (.slice (some ⟨w'.heap.size, 0, none⟩) 4 4)) (.cells #[.string ⟨#[111, 110, 101]⟩, .int .i64 1, .slice (some ⟨w.heap.size + 1, 0, none⟩) 1 1, .int .i64 0, .int .i64 0, .string aPeril.name, .int .i64 1, .slice (some ⟨g, 0, none⟩) 4 4, .int .i64 0, .int .i64 0, .string ⟨#[110]⟩, .int .i64 2, .slice none 0 0, .int .i64 0, .int .i64 6, .string ⟨#[116]⟩, .int .i64 3, .slice none 0 0, .int .i64 0, .int .i64 0] 85)
  ·intro v hv
   simp only [List.mem_cons, List.not_mem_nil, or_false] at hv
   rcases hv with rfl | rfl | rfl | rfl
   ·refine isStrs_set (isStrs_block (t := 9) (l := [⟨#[111, 110, 108, 121]⟩]) ?_ rfl) (by simp) _ _
    simpa using HO.out
   ·exact isStrs_set HP.out (by omega) _ _
   ·exact isStrs_nil _
   ·exact isStrs_nil _
  ·exact (HX.out.setAbove (by simp) _).alloc _
 ·go_wp2_with fail
  refine bodyPost_ret (v := .agg #[.slice (some ⟨w.heap.size + 1, 0, none⟩) 1 1]) (by simp [results, Tryz.results27, go_sem]) rfl ?_
  refine schemaQ_mk HMM.out [⟨⟨⟨#[116]⟩, 3, [], 0, 0⟩, none, 0, 0⟩] (t := 85) (by omega) (by intro v hv b off he; simp only [List.mem_cons, List.not_mem_nil, or_false] at hv; (repeat' (rcases hv with rfl | hv)) <;> (try subst hv) <;> simp at he <;> omega) ?_ rfl rfl (by simp [schemas]) (by intro v hv; simp at hv; subst hv; exact isStrs_nil _) (((Ext.refl w).alloc _).alloc _)
  simpa [AttrV.cells] using alloc_new (w.alloc (.cells #[.slice (some ⟨w.heap.size + 1, 0, none⟩) 1 1] 31)) (.cells #[.string ⟨#[116]⟩, .int .i64 3, .slice none 0 0, .int .i64 0, .int .i64 0] 85)
open Go.RowKit
theorem rletter_calls (c : Int) (w : World) : Calls Tryz.prog 121 #[.int .u8 c] w (Gives (.bool (letterB c)) w) := by
 go_enter Tryz.func121, Tryz.ntmps121
 go_wp2_with fail
 all_goals (go_ret; exact gives_bool (by simp [letterB]; omega))
theorem rdigit_calls (c : Int) (w : World) : Calls Tryz.prog 122 #[.int .u8 c] w (Gives (.bool (digitB c)) w) := by
 go_enter Tryz.func122, Tryz.ntmps122
 go_wp2_with fail
 all_goals (go_ret; exact gives_bool (by simp [digitB]; omega))
theorem far_calls (n : Int) (w : World) : Calls Tryz.prog 106 #[.int .i64 n] w (Gives (.bool (!numberB n)) w) := by
 go_enter Tryz.func106, Tryz.ntmps106
 go_wp2_with fail
 all_goals (go_ret; exact gives_bool (by rw [Bool.eq_iff_iff]; simp [numberB]; omega))
set_option maxHeartbeats 1000000 in
theorem rreserved_calls (s : ByteArray) (w : World) : Calls Tryz.prog 103 #[.string s] w (Gives (.bool (reservedB s)) w) := by
 go_enter Tryz.func103, Tryz.ntmps103
 go_wp2_with fail
 all_goals (go_ret; exact gives_bool (by simp_all [reservedB, reservedWords]))
theorem spanF_every (p : Int -> Bool) (s : ByteArray) : ∀ (m k : Nat), s.size - k = m -> k <= s.size -> (spanF p s (s.size - k) k = s.size ↔ ∀ j (h : j < s.size), k <= j -> p (s[j].toNat : Int) = true) := by
 intro m
 induction m with
 | zero =>
  intro k hm hk
  rw [spanF_end (by omega)]
  exact ⟨fun _ j h hj => by omega, fun _ => by omega⟩
 | succ m ih =>
  intro k hm hk
  have hlt : k < s.size := by omega
  cases hp : p (s[k].toNat : Int)
  ·rw [spanF_stop hlt hp]
   exact ⟨fun h => by omega, fun h => by rw [h k hlt (Nat.le_refl _)] at hp; cases hp⟩
  ·rw [spanF_step hlt hp, ih (k + 1) (by omega) (by omega)]
   refine ⟨fun h j hj hkj => ?_, fun h j hj hkj => h j hj (by omega)⟩
   by_cases e : j = k
   ·subst e; exact hp
   ·exact h j hj (by omega)
theorem wordB_of {s : ByteArray} (h0 : s.size ≠ 0) (h1 : s.size <= 16) (h2 : letterB (byteAt s 0) = true) (h3 : byteAt s (s.size - 1) ≠ 45) (h : ∀ j (hj : j < s.size), inWordB (s[j].toNat : Int) = true) : wordB s = true := by
 have := (spanF_every inWordB s _ 0 rfl (by omega)).2 (fun j hj _ => h j hj)
 rw [Nat.sub_zero] at this
 simp [wordB, h0, h1, h2, h3, this]
theorem wordB_no {s : ByteArray} {j : Nat} (hj : j < s.size) (h : inWordB (s[j].toNat : Int) = false) : wordB s = false := by
 cases hb : wordB s
 ·rfl
 simp only [wordB, Bool.and_eq_true, beq_iff_eq] at hb
 have := (spanF_every inWordB s _ 0 rfl (by omega)).1 (by rw [Nat.sub_zero]; exact hb.2) j hj (by omega)
 rw [h] at this; cases this
set_option maxRecDepth 100000 in
set_option maxHeartbeats 1000000 in
theorem rword_calls (s : ByteArray) (w : World) (hs : s.size <= 1000000000000000) : Calls Tryz.prog 102 #[.string s] w (Gives (.bool (wordB s)) w) := by
 by_cases h0 : s.size = 0
 ·have H := hI (show wordB s = false by simp [wordB, h0])
  have hz : decide ((s.size : Int) < 1) = true := by simp [h0]
  clear h0
  go_enter Tryz.func102, Tryz.ntmps102
  go_wp2_with fail
  go_ret
  exact gives_bool (by rw [H.out])
 have hz : decide ((s.size : Int) < 1) = false := by simp; omega
 by_cases h1 : s.size <= 16
 ·have hb0 := byteAt_lt (show 0 < s.size by omega)
  have hb1 := byteAt_lt (show s.size - 1 < s.size by omega)
  have hz2 : decide ((16 : Int) < s.size) = false := by simp; omega
  cases h2 : letterB (s[0]'(by omega)).toNat
  ·have H := hI (show wordB s = false by simp [wordB, hb0, h2])
   have H2 := hI h2
   clear h2 hb0 hb1
   go_enter Tryz.func102, Tryz.ntmps102
   go_wp2_with fail
   refine (rletter_calls _ _).mono ?_
   rintro e w' ⟨rfl, rfl⟩
   rw [H2.out]
   go_wp2_with fail
   go_ret
   exact gives_bool (by rw [H.out])
  ·have H2 := hI h2
   have HB0 := hI hb0
   have HB1 := hI hb1
   clear h2 hb0 hb1
   have e1 : ((s.size : Int) - 1).toNat = s.size - 1 := by omega
   cases h3 : ((s[s.size - 1]'(by omega)).toNat : Int) == 45
   ·have HY := hI (show (∀ j (hj : j < s.size), inWordB (s[j].toNat : Int) = true) -> wordB s = true from fun h => wordB_of h0 h1 (by rw [HB0.out]; exact H2.out) (by rw [HB1.out]; simpa using h3) h)
    go_enter Tryz.func102, Tryz.ntmps102
    go_wp2_with fail
    refine (rletter_calls _ _).mono ?_
    rintro e w' ⟨rfl, rfl⟩
    rw [H2.out]
    go_wp2_with fail
    go_loop [3] (fun i => ∃ k : Nat, i = .int .i64 k /\ k <= s.size /\ ∀ j (hj : j < s.size), j < k -> inWordB (s[j].toNat : Int) = true) (fun i => s.size - (intOf i).toNat)
    case atStart => exact ⟨0, rfl, by omega, fun j _ h => by omega⟩
    case round =>
     obtain ⟨k, rfl, hk, hall⟩ := hrel
     have HA := hI hall
     clear hall
     by_cases hlt : k < s.size
     ·have HN := hI (fun h => wordB_no (s := s) hlt h)
      cases h4 : letterB (s[k].toNat : Int)
      ·cases h5 : digitB (s[k].toNat : Int)
       ·cases h6 : ((s[k].toNat : Int) == 45)
        ·have H := hI (HN.out (by simp [inWordB, h4, h5, h6]))
         have h6' : ((s[k].toNat : Int) != 45) = true := by simpa using h6
         have H4 := hI h4
         have H5 := hI h5
         clear h4 h5
         go_wp2_with fail
         refine (rletter_calls _ _).mono ?_
         rintro e w' ⟨rfl, rfl⟩
         rw [H4.out]
         go_wp2_with fail
         refine (rdigit_calls _ _).mono ?_
         rintro e w' ⟨rfl, rfl⟩
         rw [H5.out]
         go_wp2_with fail
         go_ret
         exact gives_bool (by rw [H.out])
        ·have H := hI (show inWordB (s[k].toNat : Int) = true by simp [inWordB, h4, h5, h6])
         have h6' : ((s[k].toNat : Int) != 45) = false := by simpa using h6
         have H4 := hI h4
         have H5 := hI h5
         clear h4 h5
         go_wp2_with fail
         refine (rletter_calls _ _).mono ?_
         rintro e w' ⟨rfl, rfl⟩
         rw [H4.out]
         go_wp2_with fail
         refine (rdigit_calls _ _).mono ?_
         rintro e w' ⟨rfl, rfl⟩
         rw [H5.out]
         go_wp2_with fail
         go_round
         case rel => exact ⟨k + 1, by go_num, by omega, fun j hj hjk => by
          by_cases e : j = k
          ·subst e; exact H.out
          ·exact HA.out j hj (by omega)⟩
         case measure => simp [intOf]; omega
       ·have H := hI (show inWordB (s[k].toNat : Int) = true by simp [inWordB, h4, h5])
        have H4 := hI h4
        have H5 := hI h5
        clear h4 h5
        go_wp2_with fail
        refine (rletter_calls _ _).mono ?_
        rintro e w' ⟨rfl, rfl⟩
        rw [H4.out]
        go_wp2_with fail
        refine (rdigit_calls _ _).mono ?_
        rintro e w' ⟨rfl, rfl⟩
        rw [H5.out]
        go_wp2_with fail
        go_round
        case rel => exact ⟨k + 1, by go_num, by omega, fun j hj hjk => by
         by_cases e : j = k
         ·subst e; exact H.out
         ·exact HA.out j hj (by omega)⟩
        case measure => simp [intOf]; omega
      ·have H := hI (show inWordB (s[k].toNat : Int) = true by simp [inWordB, h4])
       have H4 := hI h4
       clear h4
       go_wp2_with fail
       refine (rletter_calls _ _).mono ?_
       rintro e w' ⟨rfl, rfl⟩
       rw [H4.out]
       go_wp2_with fail
       go_round
       case rel => exact ⟨k + 1, by go_num, by omega, fun j hj hjk => by
        by_cases e : j = k
        ·subst e; exact H.out
        ·exact HA.out j hj (by omega)⟩
       case measure => simp [intOf]; omega
     ·go_wp2_with fail
      go_ret
      exact gives_bool (by rw [HY.out (fun j hj => HA.out j hj (by omega))])
   ·have H := hI (show wordB s = false by simp [wordB, HB0.out, HB1.out, H2.out, h1, h0]; intro h; simp at h3; omega)
    go_enter Tryz.func102, Tryz.ntmps102
    go_wp2_with fail
    refine (rletter_calls _ _).mono ?_
    rintro e w' ⟨rfl, rfl⟩
    rw [H2.out]
    go_wp2_with fail
    go_ret
    exact gives_bool (by rw [H.out])
 ·have H := hI (show wordB s = false by simp [wordB]; omega)
  have hz2 : decide ((16 : Int) < s.size) = true := by simp; omega
  go_enter Tryz.func102, Tryz.ntmps102
  go_wp2_with fail
  go_ret
  exact gives_bool (by rw [H.out])
theorem rname_calls (s : ByteArray) (w : World) (hs : s.size <= 1000000000000000) : Calls Tryz.prog 81 #[.string s] w (Gives (.bool (nameB s)) w) := by
 go_enter Tryz.func81, Tryz.ntmps81
 go_wp2_with (first
  | (go_at_call 102; refine (rword_calls _ _ hs).mono ?_; rintro e w' ⟨rfl, rfl⟩)
  | (go_at_call 103; refine (rreserved_calls _ _).mono ?_; rintro e w' ⟨rfl, rfl⟩))
 all_goals (go_ret; exact gives_bool (by simp_all [nameB]))
set_option maxRecDepth 100000 in
theorem names_calls (l : List ByteArray) (a : Option Addr) (n c : Nat) (w : World) (hl : IsStrs w l a n c) (hn : n <= 1000000000000000) (hsz : ∀ x ∈ l, x.size <= 1000000000000000) :
  Calls Tryz.prog 104 #[.slice a n c] w (Gives (.bool (l.all nameB)) w) := by
 have HL := hI hl
 have HZ := hI hsz
 have hnl := hI hl.1
 clear hl hsz
 go_enter Tryz.func104, Tryz.ntmps104
 go_wp2_with fail
 go_loop [3] (fun t => ∃ k : Nat, t = .int .i64 k /\ k <= n /\ ∀ j (hj : j < l.length), j < k -> nameB l[j] = true) (fun t => n - (intOf t).toNat)
 case atStart => exact ⟨0, rfl, by omega, fun j _ h => by omega⟩
 case round =>
  obtain ⟨k, rfl, hk, hlo⟩ := hrel
  have HO := hI hlo
  clear hlo
  by_cases hlt : k < n
  ·have hlt' : k < l.length := by have := hnl.out; omega
   have hsk := HZ.out _ (List.getElem_mem hlt')
   obtain ⟨b, off, rfl, hcell⟩ := HL.out.2.2.2 k hlt'
   cases h3 : nameB l[k]
   ·have H := hI (show l.all nameB = false by
     rw [List.all_eq_false]; exact ⟨l[k], List.getElem_mem hlt', by simp [h3]⟩)
    have H3 := hI h3
    clear h3
    go_wp2_with fail
    refine (rname_calls _ _ hsk).mono ?_
    rintro e w' ⟨rfl, rfl⟩
    rw [H3.out]
    go_wp2_with fail
    go_ret
    exact gives_bool (by rw [H.out])
   ·have H3 := hI h3
    clear h3
    go_wp2_with fail
    refine (rname_calls _ _ hsk).mono ?_
    rintro e w' ⟨rfl, rfl⟩
    rw [H3.out]
    go_wp2_with fail
    go_round
    case rel => exact ⟨k + 1, by go_num, by omega, fun j hj hjk => by
     by_cases e : j = k
     ·subst e; exact H3.out
     ·exact HO.out j hj (by omega)⟩
    case measure => simp [intOf]; omega
  ·go_wp2_with fail
   go_ret
   exact gives_bool (by
    symm
    rw [List.all_eq_true]
    intro x hx
    obtain ⟨j, hj, rfl⟩ := List.getElem_of_mem hx
    exact HO.out j hj (by have := hnl.out; omega))
theorem nodup_of {l : List ByteArray} {n : Nat} (hn : n = l.length) (h : ∀ i j (hi : i < l.length) (hj : j < l.length), i < n -> j < i -> l[i] ≠ l[j]) : l.Nodup := by
 rw [List.Nodup, List.pairwise_iff_getElem]
 intro i j hi hj hij e
 exact h j i hj hi (by omega) hij e.symm
def GivesD (v : Value) (w : World) (e : Ending) (w' : World) : Prop := e = .returned v /\ ∃ n, w' = w.drewN n
theorem drewN_drewN (w : World) (a b : Nat) : (w.drewN a).drewN b = w.drewN (a + b) := by simp [World.drewN, Nat.add_assoc]
theorem givesD_bool {a b : Bool} {w w' : World} (h : a = b) (hx : ∃ n, w' = w.drewN n) : GivesD (.bool b) w (.returned (.bool a)) w' := by subst h; exact ⟨rfl, hx⟩
set_option maxRecDepth 100000 in
set_option maxHeartbeats 1000000 in
theorem distinct_calls (l : List ByteArray) (a : Option Addr) (n c : Nat) (w : World) (hl : IsStrs w l a n c) (hn : n <= 1000000000000000) :
  Calls Tryz.prog 105 #[.slice a n c] w (GivesD (.bool (decide l.Nodup)) w) := by
 have HL := hI hl
 have hnl := hI hl.1
 clear hl
 go_enter Tryz.func105, Tryz.ntmps105
 go_wp2_with fail
 go_loopw [3, 4] (fun t _ wr => ∃ k : Nat, t = .int .i64 k /\ k <= n /\ (∀ i j (hi : i < l.length) (hj : j < l.length), i < k -> j < i -> l[i] ≠ l[j]) /\ ∃ q, wr = w.drewN q) (fun t _ _ => n - (intOf t).toNat)
 case atStart => exact ⟨0, rfl, by omega, fun i j _ _ h => by omega, 0, rfl⟩
 case round =>
  obtain ⟨k, rfl, hk, hlo, q, rfl⟩ := hrel
  have HO := hI hlo
  clear hlo
  by_cases hlt : k < n
  ·have hlt' : k < l.length := by have := hnl.out; omega
   go_wp2_with fail
   go_loopw [4] (fun t wr2 => ∃ m : Nat, t = .int .i64 m /\ m <= k /\ (∀ j (hj : j < l.length), j < m -> l[k] ≠ l[j]) /\ ∃ q, wr2 = w.drewN q) (fun t _ => k - (intOf t).toNat)
   case atStart => exact ⟨0, rfl, by omega, fun j _ h => by omega, q, rfl⟩
   case round =>
    obtain ⟨m, rfl, hm, hne, q2, rfl⟩ := hrel
    have HE := hI hne
    clear hne
    by_cases hmk : m < k
    ·have hmk' : m < l.length := by omega
     obtain ⟨b, off, rfl, hc1⟩ := HL.out.2.2.2 k hlt'
     obtain ⟨b', off', e, hc2⟩ := HL.out.2.2.2 m hmk'
     simp only [Option.some.injEq, Addr.mk.injEq, and_true] at e
     obtain ⟨rfl, rfl⟩ := e
     have ti0 : (0 : Int) <= (k : Int) := by omega
     have ti1 : (k : Int) < (n : Int) := by omega
     have tj0 : (0 : Int) <= (m : Int) := by omega
     have tj1 : (m : Int) < (n : Int) := by omega
     cases he : (l[k].toList == l[m].toList)
     ·have HQ := hI he
      go_wp2_with fail
      go_quiet (fail)
      go_wp2_with fail
      go_roundw
      case rel =>
       refine ⟨m + 1, by go_num, by omega, fun j hj hjm => ?_, _, rfl⟩
       by_cases e : j = m
       ·subst e; intro h; have := HQ.out; rw [h] at this; simp at this
       ·exact HE.out j hj (by omega)
      case measure => simp [intOf]; omega
     ·have H := hI (show decide l.Nodup = false by
       rw [decide_eq_false_iff_not]
       intro hnd
       have h1 := toList_inj (beq_iff_eq.1 he)
       rw [List.Nodup, List.pairwise_iff_getElem] at hnd
       exact hnd m k hmk' hlt' hmk h1.symm)
      go_wp2_with fail
      go_quiet (fail)
      go_wp2_with fail
      go_ret
      exact givesD_bool (by rw [H.out]) ⟨_, drewN_drewN _ _ _⟩
    ·go_wp2_with fail
     go_roundw
     case rel =>
      refine ⟨k + 1, by go_num, by omega, fun i j hi hj hik hji => ?_, q2, rfl⟩
      by_cases e : i = k
      ·subst e; exact HE.out j hj (by omega)
      ·exact HO.out i j hi hj (by omega) hji
     case measure => simp [intOf]; omega
  ·go_wp2_with fail
   go_ret
   exact givesD_bool (by
    symm
    rw [decide_eq_true_eq]
    exact nodup_of hnl.out (fun i j hi hj hin hji => HO.out i j hi hj (by omega) hji)) ⟨q, rfl⟩
mutual
def Ex.slim : Ex -> Prop
 | .mk _ _ _ _ _ args => args.length <= 1000000000000000 /\ slimAll args
def slimAll : List Ex -> Prop
 | [] => True
 | e :: r => e.slim /\ slimAll r
end
theorem slimAll_iff : (l : List Ex) -> (slimAll l ↔ ∀ x ∈ l, x.slim)
 | [] => by simp [slimAll]
 | e :: r => by rw [slimAll, slimAll_iff r]; simp
theorem slim_parts {e : Ex} (h : e.slim) : e.args.length <= 1000000000000000 /\ ∀ x ∈ e.args, x.slim := by
 cases e; unfold Ex.slim at h; exact ⟨h.1, (slimAll_iff _).1 h.2⟩
mutual
theorem slim_of_size : (e : Ex) -> e.size <= 1000000000000000 -> e.slim
 | .mk op name words lo hi args, h => by
  rw [Ex.size] at h
  have := length_le_sizes args
  unfold Ex.slim
  exact ⟨by omega, slimAll_of_size args (by omega)⟩
theorem slimAll_of_size : (l : List Ex) -> sizes l <= 1000000000000000 -> slimAll l
 | [], _ => by unfold slimAll; trivial
 | e :: r, h => by
  rw [sizes] at h
  unfold slimAll
  exact ⟨slim_of_size e (by omega), slimAll_of_size r (by omega)⟩
end
open Go.RowKit
theorem size_pos (e : Ex) : 1 <= e.size := by rw [e.size_eq]; omega
def refSize (e : Ex) : Nat := min e.size 301
def refSizes : List Ex -> Nat
 | [] => 0
 | e :: r => refSize e + refSizes r
theorem refSizes_le (l : List Ex) : refSizes l <= sizes l /\ l.length <= refSizes l /\ min (1 + refSizes l) 301 = min (1 + sizes l) 301 := by
 induction l with
 | nil => simp [refSizes, sizes]
 | cons e r ih => have := size_pos e; simp only [refSizes, sizes, refSize, List.length_cons]; omega
theorem refSizes_take_succ (l : List Ex) (k : Nat) (hk : k < l.length) : refSizes (l.take (k + 1)) = refSizes (l.take k) + refSize l[k] := by
 induction l generalizing k with
 | nil => simp at hk
 | cons e r ih =>
  cases k with
  | zero => simp [refSizes]
  | succ k => have := ih k (by simpa using hk); simp only [List.take_succ_cons, refSizes, this, List.getElem_cons_succ]; omega
theorem refSize_of {e : Ex} {k : Nat} (hs : k = e.args.length \/ 300 < 1 + refSizes (e.args.take k)) : min (1 + refSizes (e.args.take k)) 301 = refSize e := by
 have h1 := e.size_eq
 have h2 := refSizes_le (e.args.take k)
 have h3 := sizes_take_le e.args k
 have h4 := refSizes_le e.args
 unfold refSize
 rcases hs with hs | hs
 ·rw [hs, List.take_length]; omega
 ·omega
set_option maxRecDepth 100000 in
set_option maxHeartbeats 1000000 in
theorem rsize_calls (m : Nat) : ∀ (e : Ex) (v : Value) (w : World), e.size <= m -> IsEx w e v -> Calls Tryz.prog 10 #[v] w (GivesE (.int .i64 (refSize e)) w) := by
 induction m with
 | zero => intro e v w h; have := size_pos e; omega
 | succ m ih =>
  intro e v w hm he
  obtain ⟨aw, nw, cw, aa, na, ca, rfl, hw, hna, hca, ha, hx⟩ := he.parts
  have HX := hI hx
  have HN := hI hna
  have hS : e.size = 1 + sizes e.args := e.size_eq
  have hb2 : sizes e.args <= m := by omega
  have H : Hid (∀ (e : Ex) (v : Value) (w : World), e.size <= m -> IsEx w e v -> Calls Tryz.prog 10 #[v] w (GivesE (.int .i64 (refSize e)) w)) := ih
  clear ih hx hna hw hca ha he hS hm
  unfold exV
  go_enter Tryz.func10, Tryz.ntmps10
  go_wp2_with fail
  go_loopw [3, 4] (fun s i wr => ∃ k : Nat, k <= na /\ i = .int .i64 k /\ s = .int .i64 (1 + (refSizes (e.args.take k) : Int)) /\ refSizes (e.args.take k) <= 601 /\ wr.heap[w.heap.size]? = some (.cells #[.int .i64 e.op, .string e.name, .slice aw nw cw, .int .i64 e.lo, .int .i64 e.hi, .slice aa na ca] 26 (0, 0)) /\ Ext w wr) (fun _ i _ => na - (intOf i).toNat)
  case atStart => exact ⟨0, by omega, rfl, by simp [refSizes], by simp [refSizes], alloc_new w _, (Ext.refl w).alloc _⟩
  case round =>
   obtain ⟨k, hk, rfl, rfl, hb6, hbx, hb⟩ := hrel
   have HBX := hI hbx
   have HB := hI hb
   have hlt0 := blk_lt hbx
   obtain ⟨b0, b1, b2, b3, b4, b5, bf⟩ := blk6 hbx
   have hkl : k <= refSizes (e.args.take k) := by have := (refSizes_le (e.args.take k)).2.1; have hl := HN.out; rw [List.length_take] at this; omega
   clear hbx hb
   by_cases hlt : k < na
   ·have hlt' : k < e.args.length := by have := HN.out; omega
    by_cases hc : refSizes (e.args.take k) <= 299
    ·have t1 : decide ((k : Int) < (na : Int)) = true := by simp; omega
     have t2 : decide (1 + (refSizes (e.args.take k) : Int) <= 300) = true := by simp; omega
     obtain ⟨b, off, rfl, aw1, nw1, cw1, aa1, na1, ca1, h0, h1, h2, h3, h4, h5, h6⟩ := ExsD.at e.args _ (ExsD.ext HB.out e.args _ HX.out) k hlt'
     have H6 := hI h6
     have hs1 := hI (refSizes_take_succ e.args k hlt')
     have hsz := sizes_take_succ e.args k hlt'
     have hsl := sizes_take_le e.args (k + 1)
     have hk1 : e.args[k].size <= m := by omega
     have hr : refSize e.args[k] <= 301 := by unfold refSize; omega
     clear h6 hsz hsl
     go_wp2_with fail
     refine (H.out e.args[k] _ _ hk1 H6.out).mono ?_
     rintro r w1 ⟨rfl, hb1⟩
     have HE1 := hI hb1
     clear b0 b1 b2 b3 b4 b5 bf hb1
     go_wp2_with fail
     go_roundw
     case rel => exact ⟨k + 1, by omega, by go_num, by rw [hs1.out]; go_num, by rw [hs1.out]; omega, HE1.out.blk HBX.out, HB.out.trans HE1.out⟩
     case measure => simp [intOf]; omega
    ·have t1 : decide ((k : Int) < (na : Int)) = true := by simp; omega
     have t2 : decide (1 + (refSizes (e.args.take k) : Int) <= 300) = false := by simp; omega
     have H1 := hI (refSize_of (e := e) (k := k) (Or.inr (by omega)))
     go_wp2_with fail
     all_goals (go_ret; exact givesE_int (by rw [<- H1.out]; omega) HB.out)
   ·have t1 : decide ((k : Int) < (na : Int)) = false := by simp; omega
    have H1 := hI (refSize_of (e := e) (k := k) (Or.inl (by have := HN.out; omega)))
    go_wp2_with fail
    all_goals (go_ret; exact givesE_int (by rw [<- H1.out]; omega) HB.out)
set_option maxRecDepth 100000 in
set_option maxHeartbeats 1000000 in
theorem deeper_slim (m : Nat) : ∀ (e : Ex) (v : Value) (w : World) (n : Nat), e.size <= m -> e.slim -> n <= 1000 -> IsEx w e v -> Calls Tryz.prog 87 #[v, .int .i64 n] w (GivesE (.bool (decide (n < e.depth))) w) := by
 induction m with
 | zero => intro e v w n h; have := size_pos e; omega
 | succ m ih =>
  intro e v w n hm hsl hn he
  obtain ⟨hsl1, hsl2⟩ := slim_parts hsl
  obtain ⟨aw, nw, cw, aa, na, ca, rfl, hw, hna, hca, ha, hx⟩ := he.parts
  have HX := hI hx
  have HN := hI hna
  have HD := hI e.depth_eq
  have hS : e.size = 1 + sizes e.args := e.size_eq
  have hb2 : sizes e.args <= m := by omega
  have hna2 : na <= 1000000000000000 := by omega
  have HSL := hI hsl2
  have H : Hid (∀ (e : Ex) (v : Value) (w : World) (n : Nat), e.size <= m -> e.slim -> n <= 1000 -> IsEx w e v -> Calls Tryz.prog 87 #[v, .int .i64 n] w (GivesE (.bool (decide (n < e.depth))) w)) := fun e v w n h1 h0 h2 h3 => ih e v w n h1 h0 h2 h3
  clear hsl hsl1 hsl2 ih hx hna hw hca ha he hS hm
  unfold exV
  by_cases hn0 : n = 0
  ·have t1 : ((n : Int) == 0) = true := by simp [hn0]
   have H1 := hI (show decide (n < e.depth) = true by rw [decide_eq_true_eq, HD.out]; omega)
   generalize decide (n < e.depth) = B at *
   go_enter Tryz.func87, Tryz.ntmps87
   go_wp2_with fail
   go_ret
   exact givesE_bool (by rw [H1.out]) ((Ext.refl w).alloc _)
  ·have hn1 : 1 <= n := by omega
   have t1 : ((n : Int) == 0) = false := by simp; omega
   obtain ⟨B, hB⟩ : ∃ B, B = decide (n < e.depth) := ⟨_, rfl⟩
   rw [<- hB]
   have HBQ := hI hB
   clear hB
   go_enter Tryz.func87, Tryz.ntmps87
   go_wp2_with fail
   go_loopw [5] (fun i wr => ∃ k : Nat, k <= na /\ i = .int .i64 k /\ (∀ j (hj : j < e.args.length), j < k -> ¬ n - 1 < e.args[j].depth) /\ wr.heap[w.heap.size]? = some (.cells #[.int .i64 e.op, .string e.name, .slice aw nw cw, .int .i64 e.lo, .int .i64 e.hi, .slice aa na ca] 26 (0, 0)) /\ Ext w wr) (fun i _ => na - (intOf i).toNat)
   case atStart => exact ⟨0, by omega, rfl, fun j _ h => by omega, alloc_new w _, (Ext.refl w).alloc _⟩
   case round =>
    obtain ⟨k, hk, rfl, hall, hbx, hb⟩ := hrel
    have HA := hI hall
    have HBX := hI hbx
    have HB := hI hb
    have hlt0 := blk_lt hbx
    obtain ⟨b0, b1, b2, b3, b4, b5, bf⟩ := blk6 hbx
    clear hbx hb hall
    by_cases hlt : k < na
    ·have hlt' : k < e.args.length := by have := HN.out; omega
     obtain ⟨b, off, rfl, aw1, nw1, cw1, aa1, na1, ca1, h0, h1, h2, h3, h4, h5, h6⟩ := ExsD.at e.args _ (ExsD.ext HB.out e.args _ HX.out) k hlt'
     have H6 := hI h6
     have hsz := sizes_take_succ e.args k hlt'
     have hsl := sizes_take_le e.args (k + 1)
     have hk1 : e.args[k].size <= m := by omega
     have HM1 := hI (depths_mem (List.getElem_mem hlt'))
     clear h6 hsz hsl
     have HCA := hI (show (n : Int) - 1 = ((n - 1 : Nat) : Int) by omega)
     go_wp2_with fail
     rw [HCA.out]
     refine (H.out e.args[k] _ _ (n - 1) hk1 (HSL.out _ (List.getElem_mem hlt')) (by omega) H6.out).mono ?_
     rintro r w1 ⟨rfl, hb1⟩
     have HE1 := hI hb1
     clear b0 b1 b2 b3 b4 b5 bf hb1
     by_cases hdp : n - 1 < e.args[k].depth
     ·rw [decide_eq_true hdp]
      have H1 := hI (show B = true by rw [HBQ.out, decide_eq_true_eq, HD.out]; have := HM1.out; omega)
      clear hdp
      go_wp2_with fail
      go_ret
      exact givesE_bool (by rw [H1.out]) (HB.out.trans HE1.out)
     ·rw [decide_eq_false hdp]
      have HND := hI hdp
      clear hdp
      go_wp2_with fail
      go_roundw
      case rel =>
       refine ⟨k + 1, by omega, by go_num, fun j hj hjk => ?_, HE1.out.blk HBX.out, HB.out.trans HE1.out⟩
       by_cases ej : j = k
       ·subst ej; exact HND.out
       ·exact HA.out j hj (by omega)
      case measure => simp [intOf]; omega
    ·have H1 := hI (show B = false by
      rw [HBQ.out, decide_eq_false_iff_not, HD.out]
      have : ∀ l : List Ex, (∀ x ∈ l, ¬ n - 1 < x.depth) -> depths l <= n - 1 := by
       intro l
       induction l with
       | nil => intro _; simp [depths]
       | cons y r ih =>
        intro h
        have h1 := h y (by simp)
        have h2 := ih (fun x hx => h x (List.mem_cons_of_mem _ hx))
        simp only [depths]; omega
      have := this e.args (fun x hx => by
       obtain ⟨j, hj, rfl⟩ := List.getElem_of_mem hx
       exact HA.out j hj (by have := HN.out; omega))
      omega)
     go_wp2_with fail
     go_ret
     exact givesE_bool (by rw [H1.out]) HB.out
end Go.Proofs.YtpkljcgihobaiaaGreatDoor
