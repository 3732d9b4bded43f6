/-
  Texts of the claim, joined: Void.
-/
import Derived.Test.YtpkljcgihobaiaaVo18
namespace Go.Proofs.Ytpkljcgihobaiaa
set_option maxRecDepth 100000
set_option maxHeartbeats 32000000
open Go.RowKit
def GnV2 (w3 : World) (Z F : Obj) (L : ZN) (vs : Nat -> Value) (W : World) : Prop := Ext w3 W /\ (∀ y, vs 4 = .pointer (some ⟨y, 0, none⟩) -> w3.heap.size <= y /\ W.heap[y]? = some (if 6 ∈ L then F else Z)) /\ (∀ z, vs 5 = .pointer (some ⟨z, 0, none⟩) -> w3.heap.size <= z /\ W.heap[z]? = some Z) /\ (∀ y z, vs 4 = .pointer (some ⟨y, 0, none⟩) -> vs 5 = .pointer (some ⟨z, 0, none⟩) -> y ≠ z)
def GrT (_ : Nat) (_ _ : World) : Prop := True
section
variable {w3 W W' : World} {Z F : Obj} {L : ZN} {vs : Nat -> Value}
theorem gv2_start : GnV2 w3 Z F [] (fun _ => undef) w3.drew := ⟨(Ext.refl w3).drew, fun y h => by simp [undef] at h, fun y h => by simp [undef] at h, fun y z h => by simp [undef] at h⟩
theorem gv2_step {i : Nat} {v : Value} (h4 : i ≠ 4) (h5 : i ≠ 5) (h6 : i ≠ 6) (h : GnV2 w3 Z F L vs W) : GnV2 w3 Z F (L ++ [i]) (upd vs i v) W := by
 have u4 : upd vs i v 4 = vs 4 := by unfold upd; rw [if_neg (fun e => h4 e.symm)]
 have u5 : upd vs i v 5 = vs 5 := by unfold upd; rw [if_neg (fun e => h5 e.symm)]
 have m6 : (6 ∈ L ++ [i]) = (6 ∈ L) := by simp [Ne.symm h6]
 unfold GnV2
 simp only [u4, u5, m6]
 exact h
theorem gv2_4 {arr : Array Value} {t : TypeId} (hZ : Z = .cells arr t (0, 0)) (h6 : 6 ∉ L) (h : GnV2 w3 Z F L vs W) : GnV2 w3 Z F (L ++ [4]) (upd vs 4 (.pointer (some ⟨W.heap.size, 0, none⟩))) (W.alloc (.cells arr t)) := by
 have hx := (Ext.refl W).alloc (.cells arr t)
 have u4 : ∀ v, upd vs 4 v 4 = v := fun v => by simp [upd]
 have u5 : ∀ v, upd vs 4 v 5 = vs 5 := fun v => by simp [upd]
 refine ⟨h.1.trans hx, fun y hy => ?_, fun z hz => ?_, fun y z hy hz => ?_⟩
 ·rw [u4] at hy
  obtain rfl : W.heap.size = y := by simpa using hy
  rw [if_neg (by simp [h6]), hZ]
  exact ⟨h.1.size, alloc_new W _⟩
 ·rw [u5] at hz
  exact ⟨(h.2.2.1 z hz).1, hx.blk (h.2.2.1 z hz).2⟩
 rw [u4] at hy
 rw [u5] at hz
 obtain rfl : W.heap.size = y := by simpa using hy
 have := blk_lt (h.2.2.1 z hz).2
 omega
theorem gv2_5 {arr : Array Value} {t : TypeId} (hZ : Z = .cells arr t (0, 0)) (h : GnV2 w3 Z F L vs W) : GnV2 w3 Z F (L ++ [5]) (upd vs 5 (.pointer (some ⟨W.heap.size, 0, none⟩))) (W.alloc (.cells arr t)) := by
 have hx := (Ext.refl W).alloc (.cells arr t)
 have u4 : ∀ v, upd vs 5 v 4 = vs 4 := fun v => by simp [upd]
 have u5 : ∀ v, upd vs 5 v 5 = v := fun v => by simp [upd]
 have m6 : (6 ∈ L ++ [5]) = (6 ∈ L) := by simp
 refine ⟨h.1.trans hx, fun y hy => ?_, fun z hz => ?_, fun y z hy hz => ?_⟩
 ·rw [u4] at hy
  simp only [m6]
  exact ⟨(h.2.1 y hy).1, hx.blk (h.2.1 y hy).2⟩
 ·rw [u5] at hz
  obtain rfl : W.heap.size = z := by simpa using hz
  rw [hZ]
  exact ⟨h.1.size, alloc_new W _⟩
 rw [u4] at hy
 rw [u5] at hz
 obtain rfl : W.heap.size = z := by simpa using hz
 have := blk_lt (h.2.1 y hy).2
 omega
theorem gv2_6 {v : Value} {y : Nat} (h : GnV2 w3 Z F L vs W) (hy : vs 4 = .pointer (some ⟨y, 0, none⟩)) (hb : W'.heap[y]? = some F) (hc : Chg [y] W W') : GnV2 w3 Z F (L ++ [6]) (upd vs 6 v) W' := by
 have u4 : upd vs 6 v 4 = vs 4 := by simp [upd]
 have u5 : upd vs 6 v 5 = vs 5 := by simp [upd]
 refine ⟨hc.ext h.1 (fun x hx => by simp at hx; rw [hx]; exact (h.2.1 y hy).1), fun x hx => ?_, fun z hz => ?_, fun x z hx hz => ?_⟩
 ·rw [u4, hy] at hx
  obtain rfl : y = x := by simpa using hx
  rw [if_pos (by simp)]
  exact ⟨(h.2.1 y hy).1, hb⟩
 ·rw [u5] at hz
  exact ⟨(h.2.2.1 z hz).1, hc.blk (h.2.2.1 z hz).2 (by simp; exact fun e => h.2.2.2 y z hy hz e.symm)⟩
 rw [u4] at hx
 rw [u5] at hz
 exact h.2.2.2 x z hx hz
end
def GnAv (a b k : Nat) (W W' : World) : Prop := (k ≠ a -> k ≠ b -> Ext W W') /\ (k = a -> ∃ x, Chg [x] W W' /\ W.heap[x]? = some (.cells #[] 41 (0, 0))) /\ (k = b -> True)
theorem gnav {a b k : Nat} {W W' : World} (h : Ext W W') (ha : k ≠ a) (_hb : k ≠ b) : GnAv a b k W W' := ⟨fun _ _ => h, fun e => absurd e ha, fun _ => trivial⟩
theorem ev_ones (evs : List EvV) : ∀ u ∈ evs.flatMap EvV.cells, u.oneCell' = true := by
 intro u hu
 obtain ⟨v, _, h⟩ := List.mem_flatMap.1 hu
 exact cells_oneE v u h
theorem ev_flat (evs : List EvV) : (evs.flatMap EvV.cells).length = evs.length * 7 := by
 induction evs with
 | nil => rfl
 | cons v r ih => simp only [List.flatMap_cons, List.length_append, ih, EvV.len, List.length_cons]; omega
theorem ev_src {w : World} {evs : List EvV} {b off n c : Nat} (h : IsRows w 7 EvV.cells evs (some ⟨b, off, none⟩) n c) : ∀ j (hj : j < (evs.flatMap EvV.cells).length), w.cell? ⟨b, off + j, none⟩ = some (evs.flatMap EvV.cells)[j] := by
 intro j hj
 have hl := ev_flat evs
 have hi : j / 7 < evs.length := by omega
 obtain ⟨b', off', e, hc⟩ := h.2.2.2 (j / 7) hi
 obtain ⟨rfl, rfl⟩ : b = b' /\ off = off' := by simpa using e
 have hm : j % 7 < (evs[j / 7].cells).length := by rw [EvV.len]; omega
 have h1 := hc (j % 7) hm
 have h2 := flatMap_at EvV.cells 7 EvV.len evs (j / 7) hi (j % 7) hm
 have e1 : j / 7 * 7 + j % 7 = j := by omega
 rw [e1] at h2
 rw [Nat.add_assoc, e1] at h1
 rw [h1, <- h2, List.getElem?_eq_getElem hj]
theorem rows_of_own {w : World} {base n c : Nat} {a : OA} {vs : List EvV} (hn : n = vs.length) (h : w.ownsRow base 41 7 (.slice a n c) n (vs.flatMap EvV.cells)) : IsRows w 7 EvV.cells vs a n c := by
 rw [hn] at h
 obtain ⟨a', c', e, hr⟩ := IsRows.of_owns EvV.len h
 obtain ⟨rfl, rfl⟩ : a = a' /\ c = c' := by simpa using e
 rw [hn]
 exact hr
theorem fit_small {x : Ev} (h1 : 0 <= x.number) (h2 : x.number <= 2000) (h3 : 0 <= x.target) (h4 : x.target <= 2000) : fitEv x := by
 have key : ∀ z : Int, 0 <= z -> z <= 2000 -> (Lit.int .i64 z).wf = true := fun z h0 h2 => by
  have e1 : IntKind.i64.min = -9223372036854775808 := rfl
  have e2 : IntKind.i64.max = 9223372036854775807 := rfl
  simp only [Lit.wf]
  rw [e1, e2]
  simp; omega
 exact ⟨key _ h1 h2, key _ h3 h4⟩
def vEv (n k t : Int) : EvV := ⟨voidEv n k t, none, 0, 0⟩
theorem evs_of_own {w : World} {base n c : Nat} {a : OA} {vs : List EvV} (hn : n = vs.length) (h : w.ownsRow base 41 7 (.slice a n c) n (vs.flatMap EvV.cells)) (hi : ∀ u ∈ vs, IsIts w u.x.items u.a u.n u.c) : IsEvs w (vs.map (·.x)) a n c := by
 rw [hn] at h
 obtain ⟨a', c', e, hr⟩ := IsRows.of_owns EvV.len h
 obtain ⟨rfl, rfl⟩ : a = a' /\ c = c' := by simpa using e
 refine ⟨vs, ?_, rfl, hi⟩
 rw [hn]
 exact hr
def GnAi (a b c d k : Nat) (W W' : World) : Prop := (k ≠ a -> k ≠ b -> k ≠ c -> k ≠ d -> Ext W W') /\ (k = a \/ k = c -> ∃ x, Chg [x] W W' /\ W.heap[x]? = some (.cells #[] 3 (0, 0)))
theorem gnai {a b c d k : Nat} {W W' : World} (h : Ext W W') (ha : k ≠ a) (hc : k ≠ c) : GnAi a b c d k W W' := ⟨fun _ _ _ _ => h, fun e => by rcases e with e | e; exact absurd e ha; exact absurd e hc⟩
theorem int_ones (l : ZI) : ∀ u ∈ l.flatMap intCells, u.oneCell' = true := by
 intro u hu
 obtain ⟨v, _, h⟩ := List.mem_flatMap.1 hu
 simp only [intCells, List.mem_cons, List.mem_nil_iff, or_false] at h
 rw [h]; rfl
theorem int_flat (l : ZI) : (l.flatMap intCells).length = l.length * 1 := by
 induction l with
 | nil => rfl
 | cons v r ih => simp only [List.flatMap_cons, List.length_append, ih, List.length_cons, intCells, List.length_nil]; omega
theorem int_src {w : World} {l : ZI} {a : OA} {n : Nat} (h : IsIntF w l a n) : 0 < n -> ∃ b off, a = some ⟨b, off, none⟩ /\ ∀ j (hj : j < (l.flatMap intCells).length), w.cell? ⟨b, off + j, none⟩ = some (l.flatMap intCells)[j] := by
 intro hp
 have hl : l.length = n := h.1.symm
 obtain ⟨b, off, e, _⟩ := h.2 0 (by omega)
 refine ⟨b, off, e, fun j hj => ?_⟩
 have hj2 : j < l.length := by rw [int_flat] at hj; omega
 obtain ⟨b', off', e', hc⟩ := h.2 j hj2
 rw [e] at e'
 obtain ⟨rfl, rfl⟩ : b = b' /\ off = off' := by simpa using e'
 rw [hc]
 have h2 := flatMap_at intCells 1 (fun _ => rfl) l j hj2 0 (by simp [intCells])
 rw [Nat.mul_one, Nat.add_zero, List.getElem?_eq_getElem hj] at h2
 rw [h2]; rfl
theorem int_own {w : World} {base n c : Nat} {a : OA} {l : ZI} {xs : List Value} (hx : xs = l.flatMap intCells) (hn : n = l.length) (h : w.ownsRow base 3 1 (.slice a n c) n xs) : IsIntF w l a n := by
 subst hx
 rw [hn] at h
 obtain ⟨a', c', e, hi⟩ := ints_own (M := []) h (fun k _ => by simp)
 obtain ⟨rfl, -⟩ : a = a' /\ c = c' := by simpa [hn] using e
 rw [hn]
 exact hi.mono (mask_sub _ _)
theorem gives_append_off {t e : TypeId} {z : Value} {size bytes : Nat} (E : ElemT t e z size bytes) {ρ : Operand -> Value} {W : World} {T : Value -> World -> Prop} {dst : Option Tmp} {ty : TypeId} {pos : String} {after : Array Edge} {guard : Option (Nat × Bool)}
  (s x : Operand) (base : Nat) (v : Value) (n : Nat) (xs : List Value) (hs : ρ s = v) (B off m c : Nat) (news : List Value) (hx : ρ x = .slice (some ⟨B, off, none⟩) m c) (hl : news.length = m * size) (h1 : ∀ u ∈ news, u.oneCell' = true) (hm : 0 < m) (hn : n + m <= 100000000) (hb : bytes <= 1000)
  (hown : W.ownsRow base e size v n xs) (hnews : ∀ j (h : j < news.length), W.cell? ⟨B, off + j, none⟩ = some news[j]) (hbase : base <= W.heap.size)
  (h : ∀ g cap w', w'.ownsRow base e size (.slice (some ⟨g, 0, none⟩) (n + m) cap) (n + m) (xs ++ news) -> W.grownBy w' v.ownBlock -> (v.ownBlock = some g \/ g = W.heap.size) -> g < w'.heap.size -> T (.slice (some ⟨g, 0, none⟩) (n + m) cap) w') :
  GivesOp Try.prog { dst := dst, op := .call { callee := .builtin .append, args := #[s, x], argTypes := #[t, t] }, type := ty, pos := pos, after := after, guard := guard } ρ W T := by
 obtain ⟨i, hi, hz, hsz, hby⟩ := info_parts E.info
 obtain ⟨g, cap, w', hrun, h2, h3, h4, h5⟩ := run_append_lies (P := Try.prog) W t ty base e i z size bytes E.ht hi hz hsz hby E.hzs E.hsz v n xs hown ⟨B, off, none⟩ m c news hl (by
   intro j u hu
   obtain ⟨hj, rfl⟩ := List.getElem?_eq_some_iff.1 hu
   have : (⟨B, off, none⟩ : Addr).add j = ⟨B, off + j, none⟩ := by unfold Addr.add; split <;> simp_all
   rw [this]
   exact hnews j hj) h1 hm (by simp only [maxLen]; omega) (by
   calc (n + m) * bytes <= 100000000 * 1000 := Nat.mul_le_mul hn hb
    _ <= 140737488355328 := by omega) hbase _ rfl
 unfold GivesOp
 have he : execOp ρ { dst := dst, op := .call { callee := .builtin .append, args := #[s, x], argTypes := #[t, t] }, type := ty, pos := pos, after := after, guard := guard } = (do pure (.value (<- Builtin.append_ #[t, t] ty #[v, .slice (some ⟨B, off, none⟩) m c]))) := by
  rw [<- hs, <- hx, BigFrame.execOp_builtin, BigFrame.builtin_append]; simp
 rw [he]
 simp only [Sem.run_bind, hrun]
 exact h g cap w' h2 h3 h4 h5
theorem gives_append_any {t e : TypeId} {z : Value} {size bytes : Nat} (E : ElemT t e z size bytes) {ρ : Operand -> Value} {W : World} {T : Value -> World -> Prop} {dst : Option Tmp} {ty : TypeId} {pos : String} {after : Array Edge} {guard : Option (Nat × Bool)}
  (s x : Operand) (base g0 n cap0 : Nat) (xs : List Value) (hs : ρ s = .slice (some ⟨g0, 0, none⟩) n cap0) (ax : OA) (m c : Nat) (news : List Value) (hx : ρ x = .slice ax m c) (hl : news.length = m * size) (h1 : ∀ u ∈ news, u.oneCell' = true) (hn : n + m <= 100000000) (hb : bytes <= 1000)
  (hown : W.ownsRow base e size (.slice (some ⟨g0, 0, none⟩) n cap0) n xs) (hnews : 0 < m -> ∃ b off, ax = some ⟨b, off, none⟩ /\ ∀ j (h : j < news.length), W.cell? ⟨b, off + j, none⟩ = some news[j]) (hbase : base <= W.heap.size)
  (h : ∀ g cap w', w'.ownsRow base e size (.slice (some ⟨g, 0, none⟩) (n + m) cap) (n + m) (xs ++ news) -> W.grownBy w' (some g0) -> T (.slice (some ⟨g, 0, none⟩) (n + m) cap) w') :
  GivesOp Try.prog { dst := dst, op := .call { callee := .builtin .append, args := #[s, x], argTypes := #[t, t] }, type := ty, pos := pos, after := after, guard := guard } ρ W T := by
 by_cases hm : m = 0
 ·exact gives_append_all E s x base g0 n cap0 xs hs ax m c news hx hl h1 hn hb hown (fun hp => by omega) hbase h
 obtain ⟨b, off, rfl, hc⟩ := hnews (by omega)
 exact gives_append_off E s x base _ n xs hs b off m c news hx hl h1 (by omega) hn hb hown hc hbase fun g cap w' h2 h3 _ _ => h g cap w' h2 h3
def vd5R (w4 : World) (b6' y4 : Nat) (lv : EvV) (gb goff ln ec : Nat) (EVS : List EvV) : Nat -> Value -> World -> Prop
 | 0, u, W => ∃ (g : Nat), u = .slice (some ⟨g, 0, none⟩) 0 0 /\ (w4.heap.size <= g /\ W.heap[g]? = some (.cells #[] 41 (0, 0)))
 | 1, u, _ => u = .slice (some ⟨gb, goff, none⟩) (ln + 1) ec
 | 2, u, W => ∃ (g : Nat) (cp : Nat), u = .slice (some ⟨g, 0, none⟩) (ln + 1) cp /\ (W.ownsRow w4.heap.size 41 7 (.slice (some ⟨g, 0, none⟩) (ln + 1) cp) (ln + 1) (EVS.flatMap EvV.cells))
 | 3, u, _ => u = .pointer (some ⟨b6', 0, none⟩)
 | 4, u, _ => u = .int .i64 lv.x.number
 | 5, u, _ => u = .int .i64 (lv.x.number + 1)
 | 6, u, _ => u = .pointer (some ⟨b6', 1, none⟩)
 | 7, u, _ => u = .int .i64 lv.x.known
 | 8, u, _ => u = .pointer (some ⟨b6', 0, none⟩)
 | 9, u, _ => u = .int .i64 lv.x.number
 | 10, u, _ => u = .agg #[.int .i64 (lv.x.number + 1), .int .i64 lv.x.known, .int .i64 7, .slice none 0 0, .int .i64 0, .int .i64 0, .int .i64 lv.x.number]
 | 11, u, W => ∃ (y : Nat), u = .slice (some ⟨y, 0, none⟩) 1 1 /\ (W.heap[y]? = some (.cells #[.int .i64 (lv.x.number + 1), .int .i64 lv.x.known, .int .i64 7, .slice none 0 0, .int .i64 0, .int .i64 0, .int .i64 lv.x.number] 41 (0, 0)))
 | 12, u, W => ∃ (g : Nat) (cp : Nat), u = .slice (some ⟨g, 0, none⟩) ((ln + 1) + 1) cp /\ (W.ownsRow w4.heap.size 41 7 (.slice (some ⟨g, 0, none⟩) ((ln + 1) + 1) cp) ((ln + 1) + 1) (EVS.flatMap EvV.cells ++ [Value.int .i64 (lv.x.number + 1), .int .i64 lv.x.known, .int .i64 7, .slice none 0 0, .int .i64 0, .int .i64 0, .int .i64 lv.x.number]))
 | _, u, _ => u = .pointer (some ⟨y4, 6, none⟩)
def vd10R (c : Clm) (b3 gb goff ec g ln cp : Nat) (lv : EvV) (YL : ZI) : Nat -> Value -> World -> Prop
 | 0, u, _ => u = .agg #[.int .i64 c.id, .int .i64 c.policy, .int .i64 c.risk, .int .i64 c.hour, .int .i64 c.peril, .int .i64 c.area, .slice (some ⟨g, 0, none⟩) (ln + 1 + 1 + 1) cp]
 | 1, u, W => ∃ (p5 : OA) (q5 : Nat), u = .slice p5 (YL.length + 1) q5 /\ IsIntF W (YL ++ [lv.x.number + 2]) p5 (YL.length + 1)
 | 2, u, _ => u = .pointer (some ⟨b3, 4, none⟩)
 | 3, u, _ => u = .agg #[.int .i64 c.id, .int .i64 c.policy, .int .i64 c.risk, .int .i64 c.hour, .int .i64 c.peril, .int .i64 c.area, .slice (some ⟨gb, goff, none⟩) (ln + 1) ec]
 | 4, u, W => ∃ (p6 : OA) (q6 : Nat), u = .slice p6 YL.length q6 /\ IsIntF W YL p6 YL.length
 | 5, u, W => ∃ (p5 : OA) (q5 : Nat), u = .slice p5 (YL.length + 1) q5 /\ IsIntF W (YL ++ [lv.x.number + 2]) p5 (YL.length + 1)
 | _, u, W => ∃ (p6 : OA) (q6 : Nat), u = .slice p6 YL.length q6 /\ IsIntF W YL p6 YL.length
def vd11R (w11 : World) (b6' : Nat) (lv : EvV) (AL YL : ZI) (an yn : Nat) (p1 p3 p5 p6 : OA) (q1 q3 q5 q6 : Nat) : Nat -> Value -> World -> Prop
 | 0, u, _ => u = .slice p1 (an + 1) q1
 | 1, u, W => ∃ (g : Nat), u = .slice (some ⟨g, 0, none⟩) 0 0 /\ (W.heap[g]? = some (.cells #[] 3 (0, 0)) /\ w11.heap.size <= g)
 | 2, u, _ => u = .slice p3 an q3
 | 3, u, W => ∃ (g : Nat) (cp : Nat), u = .slice (some ⟨g, 0, none⟩) an cp /\ (W.ownsRow w11.heap.size 3 1 (.slice (some ⟨g, 0, none⟩) an cp) an (AL.flatMap intCells))
 | 4, u, _ => u = .pointer (some ⟨b6', 0, none⟩)
 | 5, u, _ => u = .int .i64 lv.x.number
 | 6, u, _ => u = .int .i64 (lv.x.number + 1)
 | 7, u, W => ∃ (y : Nat), u = .slice (some ⟨y, 0, none⟩) 1 1 /\ (W.heap[y]? = some (.cells #[.int .i64 (lv.x.number + 1)] 3 (0, 0)))
 | 8, u, W => ∃ (g : Nat) (cp : Nat), u = .slice (some ⟨g, 0, none⟩) (an + 1) cp /\ (IsIntF W (AL ++ [lv.x.number + 1]) (some ⟨g, 0, none⟩) (an + 1))
 | 9, u, _ => u = .bool true
 | 10, u, _ => u = .bool true
 | 11, u, _ => u = .slice p5 (yn + 1) q5
 | 12, u, W => ∃ (g : Nat), u = .slice (some ⟨g, 0, none⟩) 0 0 /\ (W.heap[g]? = some (.cells #[] 3 (0, 0)) /\ w11.heap.size <= g)
 | 13, u, _ => u = .slice p6 yn q6
 | 14, u, W => ∃ (g : Nat) (cp : Nat), u = .slice (some ⟨g, 0, none⟩) yn cp /\ (W.ownsRow w11.heap.size 3 1 (.slice (some ⟨g, 0, none⟩) yn cp) yn (YL.flatMap intCells))
 | 15, u, _ => u = .pointer (some ⟨b6', 0, none⟩)
 | 16, u, _ => u = .int .i64 lv.x.number
 | 17, u, _ => u = .int .i64 (lv.x.number + 2)
 | 18, u, W => ∃ (y : Nat), u = .slice (some ⟨y, 0, none⟩) 1 1 /\ (W.heap[y]? = some (.cells #[.int .i64 (lv.x.number + 2)] 3 (0, 0)))
 | 19, u, W => ∃ (g : Nat) (cp : Nat), u = .slice (some ⟨g, 0, none⟩) (yn + 1) cp /\ (IsIntF W (YL ++ [lv.x.number + 2]) (some ⟨g, 0, none⟩) (yn + 1))
 | 20, u, _ => u = .bool true
 | 21, u, _ => u = .bool true
 | 22, u, _ => u = .bool true
 | 23, u, _ => u = .bool true
 | 24, u, _ => u = .bool true
 | _, u, _ => u = .bool true
def vd7R (c : Clm) (g ln cp : Nat) (a6 : OA) (c6 : Nat) (lv : EvV) (AL : ZI) : Nat -> Value -> World -> Prop
 | 0, u, _ => u = .agg #[.int .i64 c.id, .int .i64 c.policy, .int .i64 c.risk, .int .i64 c.hour, .int .i64 c.peril, .int .i64 c.area, .slice (some ⟨g, 0, none⟩) (ln + 1 + 1) cp]
 | 1, u, W => ∃ (p1 : OA) (q1 : Nat), u = .slice p1 (AL.length + 1) q1 /\ IsIntF W (AL ++ [lv.x.number + 1]) p1 (AL.length + 1)
 | 2, u, _ => u = .agg #[.int .i64 c.id, .int .i64 c.policy, .int .i64 c.risk, .int .i64 c.hour, .int .i64 c.peril, .int .i64 c.area, .slice a6 ln c6]
 | 3, u, W => ∃ (p3 : OA) (q3 : Nat), u = .slice p3 AL.length q3 /\ IsIntF W AL p3 AL.length
 | 4, u, W => ∃ (p1 : OA) (q1 : Nat), u = .slice p1 (AL.length + 1) q1 /\ IsIntF W (AL ++ [lv.x.number + 1]) p1 (AL.length + 1)
 | _, u, W => ∃ (p3 : OA) (q3 : Nat), u = .slice p3 AL.length q3 /\ IsIntF W AL p3 AL.length
def vd9R (w9 : World) (b6' y4 b11 : Nat) (lv : EvV) (gv ln cpv : Nat) (EV2 : List EvV) : Nat -> Value -> World -> Prop
 | 0, u, W => ∃ (g : Nat), u = .slice (some ⟨g, 0, none⟩) 0 0 /\ (w9.heap.size <= g /\ W.heap[g]? = some (.cells #[] 41 (0, 0)))
 | 1, u, _ => u = .pointer (some ⟨y4, 6, none⟩)
 | 2, u, _ => u = .slice (some ⟨gv, 0, none⟩) (ln + 1 + 1) cpv
 | 3, u, W => ∃ (g : Nat) (cp : Nat), u = .slice (some ⟨g, 0, none⟩) (ln + 1 + 1) cp /\ (W.ownsRow w9.heap.size 41 7 (.slice (some ⟨g, 0, none⟩) (ln + 1 + 1) cp) (ln + 1 + 1) (EV2.flatMap EvV.cells))
 | 4, u, _ => u = .pointer (some ⟨b6', 0, none⟩)
 | 5, u, _ => u = .int .i64 lv.x.number
 | 6, u, _ => u = .int .i64 (lv.x.number + 2)
 | 7, u, _ => u = .pointer (some ⟨b6', 1, none⟩)
 | 8, u, _ => u = .int .i64 lv.x.known
 | 9, u, _ => u = .pointer (some ⟨b6', 0, none⟩)
 | 10, u, _ => u = .int .i64 lv.x.number
 | 11, u, _ => u = .int .i64 (lv.x.number + 1)
 | 12, u, _ => u = .agg #[.int .i64 (lv.x.number + 2), .int .i64 lv.x.known, .int .i64 7, .slice none 0 0, .int .i64 0, .int .i64 0, .int .i64 (lv.x.number + 1)]
 | 13, u, W => ∃ (y : Nat), u = .slice (some ⟨y, 0, none⟩) 1 1 /\ (W.heap[y]? = some (.cells #[.int .i64 (lv.x.number + 2), .int .i64 lv.x.known, .int .i64 7, .slice none 0 0, .int .i64 0, .int .i64 0, .int .i64 (lv.x.number + 1)] 41 (0, 0)))
 | 14, u, W => ∃ (g : Nat) (cp : Nat), u = .slice (some ⟨g, 0, none⟩) ((ln + 1 + 1) + 1) cp /\ (W.ownsRow w9.heap.size 41 7 (.slice (some ⟨g, 0, none⟩) ((ln + 1 + 1) + 1) cp) ((ln + 1 + 1) + 1) (EV2.flatMap EvV.cells ++ [Value.int .i64 (lv.x.number + 2), .int .i64 lv.x.known, .int .i64 7, .slice none 0 0, .int .i64 0, .int .i64 0, .int .i64 (lv.x.number + 1)]))
 | _, u, _ => u = .pointer (some ⟨b11, 6, none⟩)
def vd4R (b3 : Nat) (c : Clm) (gb goff ln ec : Nat) : Nat -> Value -> World -> Prop
 | 0, u, _ => u = .pointer (some ⟨b3, 4, none⟩)
 | 1, u, _ => u = .agg #[.int .i64 c.id, .int .i64 c.policy, .int .i64 c.risk, .int .i64 c.hour, .int .i64 c.peril, .int .i64 c.area, .slice (some ⟨gb, goff, none⟩) (ln + 1) ec]
 | 2, u, _ => u = .pointer (some ⟨b3, 4, none⟩)
 | 3, u, _ => u = .agg #[.int .i64 c.id, .int .i64 c.policy, .int .i64 c.risk, .int .i64 c.hour, .int .i64 c.peril, .int .i64 c.area, .slice (some ⟨gb, goff, none⟩) (ln + 1) ec]
 | 4, u, _ => ∃ (y4 : Nat), u = .pointer (some ⟨y4, 0, none⟩) /\ True
 | 5, u, _ => ∃ (y5 : Nat), u = .pointer (some ⟨y5, 0, none⟩) /\ True
 | _, u, _ => u = undef
theorem void_calls (da : OA) (dn dc : Nat) (w : World) (h : IntsAt w da dn) (hdl : dn <= 1000000000000000) : Calls Try.prog 3 #[.slice da dn dc] w (GivesE (.bool true) w) := by
 have HMD := hI (made18_calls da dn dc w h hdl)
 clear h
 go_enter Try.func3, Try.ntmps3
 go_wp2_with fail
 refine HMD.out.mono ?_
 rintro r w1 ⟨attrs, rts, x, ⟨sa, sn, sc, ta, tn, tc, wa, wn, wc, xa, xn, xc, c, ea, en, ec, hh, kk⟩, bd, rfl, hw, -, hx1⟩
 have HX1 := hI hx1
 have HCLM := hI hw.clm
 have HEV := hI (hw.evs.mono (mask_sub _ _))
 have HEN := hI hw.evs.len
 clear hw hx1 HMD
 unfold Wv.cells
 dsimp only at HCLM HEV HEN ⊢
 go_upto_region 2 with fail
 obtain ⟨w2, hw2⟩ : ∃ w2, w2 = w1.alloc (.cells (Wv.cells ⟨sa, sn, sc, ta, tn, tc, wa, wn, wc, xa, xn, xc, c, ea, en, ec, hh, kk⟩) 35) := ⟨_, rfl⟩
 have HX2 := hI (show Ext w1 w2 by rw [hw2]; exact (Ext.refl _).alloc _)
 have HB2 := hI (show w2.heap[w1.heap.size]? = some (Wv.obj ⟨sa, sn, sc, ta, tn, tc, wa, wn, wc, xa, xn, xc, c, ea, en, ec, hh, kk⟩) by rw [hw2]; exact alloc_new w1 _)
 obtain ⟨b3, hb3⟩ : ∃ b3, b3 = w1.heap.size := ⟨_, rfl⟩
 unfold Wv.cells at hw2
 dsimp only at hw2
 rw [<- hw2, <- hb3]
 rw [<- hb3] at HB2
 clear hw2 hb3
 obtain ⟨l, last, hcl, hlk, hln0, hln1, hp1, hp2⟩ := void_plain HCLM.out
 have HCL := hI hcl
 have HP1 := hI hp1
 have HP2 := hI hp2
 have henl : en = l.length + 1 := by rw [HEN.out, hcl]; simp
 obtain ⟨ln, hln⟩ : ∃ ln, ln = l.length := ⟨_, rfl⟩
 rw [<- hln] at henl
 subst henl
 have HLN := hI hln
 have hlnb : ln <= 7 := by have := HCLM.out.2.2.2.1; rw [hcl] at this; simp at this; omega
 have hkl : ln < c.events.length := by rw [hcl]; simp; omega
 obtain ⟨gb, goff, lv, hga, hlx, hlits, hlrow⟩ := (HEV.out.ext HX2.out).at hkl
 subst hga
 have hlast : c.events[ln] = last := by
  have e : c.events = l ++ [last] := hcl
  simp [e, hln]
 rw [hlast] at hlx hlits
 subst hlx
 obtain ⟨r0, r1, r2, r3, r4, r5, r6⟩ := hlrow.seven
 have HLI := hI hlits
 clear hcl hp1 hp2 hln hlast hlits hlrow
 obtain ⟨b0, b1, b2, b3', b4, b5, b6, b7, b8, b9, b10, b11, b12, bf⟩ := blk13 HB2.out
 have hlb := blk_lt HB2.out
 have e1 : (((ln + 1 : Nat) : Int) - 1) = (ln : Int) := by omega
 have e2 : ln < ln + 1 := by omega
 have e3 : (0 : Int) <= (ln : Int) := by omega
 have e4 : (ln : Int) < ((ln + 1 : Nat) : Int) := by omega
 go_upto_region 4 with fail
 obtain ⟨w3, hw3⟩ : ∃ w3, w3 = w2.alloc (.cells #[.int .i64 lv.x.number, .int .i64 lv.x.known, .int .i64 lv.x.kind, .slice lv.a lv.n lv.c, .int .i64 lv.x.cur, .int .i64 lv.x.amount, .int .i64 lv.x.target] 41) := ⟨_, rfl⟩
 have HX3 := hI (show Ext w2 w3 by rw [hw3]; exact (Ext.refl _).alloc _)
 have HB6 := hI (show w3.heap[w2.heap.size]? = some (.cells #[.int .i64 lv.x.number, .int .i64 lv.x.known, .int .i64 lv.x.kind, .slice lv.a lv.n lv.c, .int .i64 lv.x.cur, .int .i64 lv.x.amount, .int .i64 lv.x.target] 41 (0, 0)) by rw [hw3]; exact alloc_new w2 _)
 obtain ⟨b6', hb6⟩ : ∃ b6', b6' = w2.heap.size := ⟨_, rfl⟩
 rw [<- hw3, <- hb6]
 rw [<- hb6] at HB6
 have HB3 := hI (HX3.out.blk HB2.out)
 clear hw3 hb6 b0 b1 b2 b3' b4 b5 b6 b7 b8 b9 b10 b11 b12 bf hlb r0 r1 r2 r3 r4 r5 r6 e1 e2 e3 e4 HB2
 obtain ⟨b0, b1, b2, b3', b4, b5, b6, b7, b8, b9, b10, b11, b12, bf⟩ := blk13 HB3.out
 have hlb := blk_lt HB3.out
 dsimp only at b0 b1 b2 b3' b4 b5 b6 b7 b8 b9 b10 b11 b12
 refine wp_region_growLG (n := 105) (m := 7) [3, 4, 5] (GnV2 w3 (ClmO 0 0 0 0 0 0 (.slice none 0 0)) (ClmO c.id c.policy c.risk c.hour c.peril c.area (.slice (some ⟨gb, goff, none⟩) (ln + 1) ec))) GrT (GrP (vd4R b3 c gb goff ln ec)) (by kernel_rfl) (by kernel_rfl) (Nat.le_of_ble_eq_true rfl) ?gd gv2_start ?_ ?_ ?_
 case gd =>
  intro i o j b hi ho hg
  rcases ltc7 hi with rfl | rfl | rfl | rfl | rfl | rfl | rfl <;> (cases ho; first | (cases hg; done) | (cases hg; intro v W h; exact h))
 ·intro i k v W W' hi hk hne hout h hE
  have hE : True := hE
  have hi' := ltc7 hi
  clear hi hk hne hout
  rcases hi' with rfl | rfl | rfl | rfl | rfl | rfl | rfl
  ·exact h
  ·exact h
  ·exact h
  ·exact h
  ·obtain ⟨y4, e0, h⟩ := h
   exact ⟨y4, e0, trivial⟩
  ·obtain ⟨y5, e0, h⟩ := h
   exact ⟨y5, e0, trivial⟩
  exact h
 ·intro q op hq ho L vs W hqL hcL hW hd ρ hρ
  have hq' := ltc7 hq
  clear hq
  have o3 : ρ (.tmp 3) = .pointer (some ⟨b3, 0, none⟩) := hρ.out 3 rfl
  have i0 := hρ.i 0 28
  have i2 := hρ.i 2 30
  have i4 := hρ.i 4 7
  have i1 := hρ.i 1 29
  have hc := hρ.const
  have hfn := hρ.func
  clear hρ
  rcases hq' with rfl | rfl | rfl | rfl | rfl | rfl | rfl
  ·have HG := hI hW
   have HW := hI (show Ext w3 W from hW.1)
   have HQL := hI hqL
   clear hW hqL hcL
   cases ho
   clear hd
   unfold GivesOp
   go_simp
   exact ⟨trivial, gv2_step (by decide) (by decide) (by decide) HG.out, rfl⟩
  ·have HG := hI hW
   have HW := hI (show Ext w3 W from hW.1)
   have HQL := hI hqL
   clear hW hqL hcL
   cases ho
   have h0 : vs 0 = _ := hd ⟨0, .data⟩ (by simp) rfl
   rw [h0] at i0
   clear hd
   have g0 := HW.out.cell b4
   have g1 := HW.out.cell b5
   have g2 := HW.out.cell b6
   have g3 := HW.out.cell b7
   have g4 := HW.out.cell b8
   have g5 := HW.out.cell b9
   have g6 := HW.out.cell b10
   unfold GivesOp
   go_simp
   exact ⟨trivial, gv2_step (by decide) (by decide) (by decide) HG.out, rfl⟩
  ·have HG := hI hW
   have HW := hI (show Ext w3 W from hW.1)
   have HQL := hI hqL
   clear hW hqL hcL
   cases ho
   clear hd
   unfold GivesOp
   go_simp
   exact ⟨trivial, gv2_step (by decide) (by decide) (by decide) HG.out, rfl⟩
  ·have HG := hI hW
   have HW := hI (show Ext w3 W from hW.1)
   have HQL := hI hqL
   clear hW hqL hcL
   cases ho
   have h2 : vs 2 = _ := hd ⟨2, .data⟩ (by simp) rfl
   rw [h2] at i2
   clear hd
   have g0 := HW.out.cell b4
   have g1 := HW.out.cell b5
   have g2 := HW.out.cell b6
   have g3 := HW.out.cell b7
   have g4 := HW.out.cell b8
   have g5 := HW.out.cell b9
   have g6 := HW.out.cell b10
   unfold GivesOp
   go_simp
   exact ⟨trivial, gv2_step (by decide) (by decide) (by decide) HG.out, rfl⟩
  ·have HN6 := hI (show 6 ∉ L from fun h => absurd (hcL 6 h) (by decide +kernel))
   have HG := hI hW
   have HW := hI (show Ext w3 W from hW.1)
   have HQL := hI hqL
   clear hW hqL hcL
   cases ho
   clear hd
   unfold GivesOp
   go_simp
   exact ⟨trivial, gv2_4 rfl HN6.out HG.out, _, rfl, trivial⟩
  ·have HG := hI hW
   have HW := hI (show Ext w3 W from hW.1)
   have HQL := hI hqL
   clear hW hqL hcL
   cases ho
   clear hd
   unfold GivesOp
   go_simp
   exact ⟨trivial, gv2_5 rfl HG.out, _, rfl, trivial⟩
  have HG := hI hW
  have HW := hI (show Ext w3 W from hW.1)
  have HQL := hI hqL
  clear hW hqL hcL
  cases ho
  obtain ⟨y4, h4, hs4⟩ : ∃ (y4 : Nat), vs 4 = .pointer (some ⟨y4, 0, none⟩) /\ True := hd ⟨4, .data⟩ (by simp) rfl
  have HS4 := hI hs4
  clear hs4
  rw [h4] at i4
  have h1 : vs 1 = _ := hd ⟨1, .data⟩ (by simp) rfl
  rw [h1] at i1
  clear hd
  have q6 := HG.out.2.1 y4 h4
  rw [if_neg HQL.out] at q6
  have q6b := q6.2
  unfold ClmO at q6b
  obtain ⟨z0, z1, z2, z3, z4, z5, z6, zf⟩ := blk7 q6b
  have hlz := blk_lt q6b
  unfold GivesOp
  go_simp
  exact ⟨trivial, gv2_6 HG.out h4 (put7_blk q6b) (put7_chg _ _), rfl⟩
 intro L vs W hLm hW hR
 rw [if_neg (by decide +kernel)]
 have h3 : vs 3 = .agg #[.int .i64 c.id, .int .i64 c.policy, .int .i64 c.risk, .int .i64 c.hour, .int .i64 c.peril, .int .i64 c.area, .slice (some ⟨gb, goff, none⟩) (ln + 1) ec] := hR 3 (by simp) (by omega)
 obtain ⟨y4, h4, hs4⟩ : ∃ (y4 : Nat), vs 4 = .pointer (some ⟨y4, 0, none⟩) /\ True := hR 4 (by simp) (by omega)
 have HS4 := hI hs4
 clear hs4
 obtain ⟨y5, h5, hs5⟩ : ∃ (y5 : Nat), vs 5 = .pointer (some ⟨y5, 0, none⟩) /\ True := hR 5 (by simp) (by omega)
 have HS5 := hI hs5
 clear hs5
 have q4 := hW.2.1 _ h4
 have q5 := hW.2.2.1 _ h5
 have q45 := hW.2.2.2 _ _ h4 h5
 rw [if_pos (hLm 6 (by omega))] at q4
 have q5b := q5.2
 unfold ClmO at q5b
 obtain ⟨z0, z1, z2, z3, z4, z5, z6, zf⟩ := blk7 q5b
 have hlz := blk_lt q5b
 refine wpOp_lastG rfl ?_
 change wpList _ _ _ [⟨none, .store _ (.tmp 8) (.tmp 31), _, _, _, none⟩] _ _
 simp only [acts, dstAt, List.range, List.range.loop, List.foldl_cons, List.foldl_nil, h3, h4, h5]
 go_simp
 have hW2 : Ext w3 W := hW.1
 clear hR hW hLm h3 h4 h5
 have HW2 := hI hW2
 clear hW2
 go_upto_region 5 with fail
 obtain ⟨w4, hw4⟩ : ∃ w4, w4 = put7 W y5 (.int .i64 c.id) (.int .i64 c.policy) (.int .i64 c.risk) (.int .i64 c.hour) (.int .i64 c.peril) (.int .i64 c.area) (.slice (some ⟨gb, goff, none⟩) (ln + 1) ec) := ⟨_, rfl⟩
 have hcs : Chg [y5] W w4 := by rw [hw4]; exact put7_chg _ _
 have HBC := hI (show w4.heap[y5]? = some (ClmO c.id c.policy c.risk c.hour c.peril c.area (.slice (some ⟨gb, goff, none⟩) (ln + 1) ec)) by rw [hw4]; exact put7_blk q5b)
 have HBV := hI (show w4.heap[y4]? = some (ClmO c.id c.policy c.risk c.hour c.peril c.area (.slice (some ⟨gb, goff, none⟩) (ln + 1) ec)) from hcs.blk q4.2 (by simp; exact q45))
 have HX4 := hI (show Ext w3 w4 from hcs.ext HW2.out (fun y hy => by simp at hy; rw [hy]; exact q5.1))
 have HYS := hI (And.intro q4.1 (And.intro q5.1 q45))
 unfold put7 at hw4
 rw [<- hw4]
 have hb3w : b3 < w3.heap.size := blk_lt HB3.out
 have hb6w : b6' < w3.heap.size := blk_lt HB6.out
 have HB6' := HB6
 obtain ⟨EVS, hrows, hEV, hits⟩ := HEV.out
 have HEL := hI (show EVS.length = ln + 1 from hrows.1.symm)
 have HEVE := hI hEV
 have HITS := hI hits
 have HSRC0 := hI (ev_src hrows)
 have HX14 := hI (show Ext w1 w4 from HX2.out.trans (HX3.out.trans HX4.out))
 have HSRC := hI (show ∀ j (hj : j < (EVS.flatMap EvV.cells).length), w4.cell? ⟨gb, goff + j, none⟩ = some (EVS.flatMap EvV.cells)[j] from fun j hj => HX14.out.cell (HSRC0.out j hj))
 have HB64 := hI (HX4.out.blk HB6.out)
 have HB34 := hI (HX4.out.blk HB3.out)
 clear hw4 hcs q4 q5 q45 q5b z0 z1 z2 z3 z4 z5 z6 zf hlz HW2 b0 b1 b2 b3' b4 b5 b6 b7 b8 b9 b10 b11 b12 bf hlb hrows hEV hits HB6' HB6 HB3
 have HB6 := HB64
 refine wp_region_grow (m := 14) [12, 13] (GrG w4) (GnAv 2 12) (GrP (vd5R w4 b6' y4 lv gb goff ln ec EVS)) (by kernel_rfl) (by kernel_rfl) ((Ext.refl w4).drew) ?_ ?_ ?_
 ·intro i k v W W' hi hk hne hout h hE
  have hi' := ltc14 hi
  clear hi hk
  by_cases hk : k = 2
  ·subst hk
   obtain ⟨x, hE, hx0⟩ := hE.2.1 rfl
   rcases hi' with rfl | rfl | rfl | rfl | rfl | rfl | rfl | rfl | rfl | rfl | rfl | rfl | rfl | rfl
   ·exact absurd hout (by decide +kernel)
   ·exact h
   ·exact absurd rfl hne
   ·exact h
   ·exact h
   ·exact h
   ·exact h
   ·exact h
   ·exact h
   ·exact h
   ·exact h
   ·obtain ⟨y, e0, h⟩ := h
    exact ⟨y, e0, hE.blk h (by simp only [List.mem_singleton]; intro e; subst e; rw [h] at hx0; cases hx0)⟩
   ·exact absurd hout (by decide +kernel)
   exact h
  by_cases hk : k = 12
  ·subst hk
   rcases hi' with rfl | rfl | rfl | rfl | rfl | rfl | rfl | rfl | rfl | rfl | rfl | rfl | rfl | rfl
   ·exact absurd hout (by decide +kernel)
   ·exact h
   ·exact absurd hout (by decide +kernel)
   ·exact h
   ·exact h
   ·exact h
   ·exact h
   ·exact h
   ·exact h
   ·exact h
   ·exact h
   ·exact absurd hout (by decide +kernel)
   ·exact absurd rfl hne
   exact h
  have hE : Ext W W' := (hE.1 ‹_› ‹_›)
  rcases hi' with rfl | rfl | rfl | rfl | rfl | rfl | rfl | rfl | rfl | rfl | rfl | rfl | rfl | rfl
  ·obtain ⟨g, e0, h⟩ := h
   exact ⟨g, e0, ⟨h.1, hE.blk h.2⟩⟩
  ·exact h
  ·obtain ⟨g, cp, e0, h⟩ := h
   exact ⟨g, cp, e0, owns_extG h hE⟩
  ·exact h
  ·exact h
  ·exact h
  ·exact h
  ·exact h
  ·exact h
  ·exact h
  ·exact h
  ·obtain ⟨y, e0, h⟩ := h
   exact ⟨y, e0, hE.blk h⟩
  ·obtain ⟨g, cp, e0, h⟩ := h
   exact ⟨g, cp, e0, owns_extG h hE⟩
  exact h
 ·intro q op hq ho vs W hW hd ρ hρ
  have hq' := ltc14 hq
  clear hq
  have o5 : ρ (.tmp 5) = .slice (some ⟨gb, goff, none⟩) (ln + 1) ec := hρ.out 5 rfl
  have i0 := hρ.i 0 32
  have i1 := hρ.i 1 33
  have o6 : ρ (.tmp 6) = .pointer (some ⟨b6', 0, none⟩) := hρ.out 6 rfl
  have i3 := hρ.i 3 35
  have i4 := hρ.i 4 36
  have i6 := hρ.i 6 38
  have i8 := hρ.i 8 40
  have i5 := hρ.i 5 37
  have i7 := hρ.i 7 39
  have i9 := hρ.i 9 41
  have i10 := hρ.i 10 42
  have i2 := hρ.i 2 34
  have i11 := hρ.i 11 43
  have o7 : ρ (.tmp 7) = .pointer (some ⟨y4, 0, none⟩) := hρ.out 7 rfl
  have hc := hρ.const
  have hfn := hρ.func
  clear hρ
  have HW := hI (show Ext w4 W from hW)
  rcases hq' with rfl | rfl | rfl | rfl | rfl | rfl | rfl | rfl | rfl | rfl | rfl | rfl | rfl | rfl
  ·cases ho
   clear hd
   unfold GivesOp
   go_simp
   exact ⟨gnav ((Ext.refl W).alloc _) (by decide) (by decide), HW.out.alloc _, W.heap.size, rfl, HW.out.size, alloc_new W _⟩
  ·cases ho
   clear hd
   unfold GivesOp
   go_simp
   exact ⟨gnav (Ext.refl _) (by decide) (by decide), rfl⟩
  ·cases ho
   obtain ⟨g, h0, hs0⟩ : ∃ (g : Nat), vs 0 = .slice (some ⟨g, 0, none⟩) 0 0 /\ (w4.heap.size <= g /\ W.heap[g]? = some (.cells #[] 41 (0, 0))) := hd ⟨0, .data⟩ (by simp) rfl
   have HS0 := hI hs0
   clear hs0
   rw [h0] at i0
   have h1 : vs 1 = _ := hd ⟨1, .data⟩ (by simp) rfl
   rw [h1] at i1
   clear hd
   refine gives_append_off elemEv _ _ w4.heap.size _ 0 [] i0 gb goff (ln + 1) ec (EVS.flatMap EvV.cells) i1 (by rw [ev_flat, HEL.out]) (ev_ones _) (by omega) (by omega) (by omega) ⟨rfl, Or.inr ⟨g, 0, #[], rfl, HS0.out.1, HS0.out.2, Nat.le_refl _, by unfold maxLen; omega, rfl, rfl⟩⟩ (fun j hj => HW.out.cell (HSRC.out j hj)) HW.out.size ?_
   intro g6 cap6 w6 ho6 hg6 hl6 hlt6
   simp only [Nat.zero_add, List.nil_append] at ho6 ⊢
   exact ⟨⟨fun h => absurd rfl h, fun _ => ⟨g, (grown_chg hg6).weak (fun y hy => by simpa [rowOf, Value.ownBlock] using hy), HS0.out.2⟩, fun h => absurd h (by decide)⟩, Ext.grown HW.out hg6 (fun k hk => by have hk2 : g = k := (by simpa [Value.ownBlock] using hk); have := HS0.out.1; omega), g6, cap6, rfl, ho6⟩
  ·cases ho
   clear hd
   unfold GivesOp
   go_simp
   exact ⟨gnav (Ext.refl _) (by decide) (by decide), rfl⟩
  ·cases ho
   have h3 : vs 3 = _ := hd ⟨3, .data⟩ (by simp) rfl
   rw [h3] at i3
   clear hd
   obtain ⟨m0, m1, m2, m3, m4, m5, m6, mf⟩ := blk7 (HW.out.blk HB6.out)
   unfold GivesOp
   go_simp
   exact ⟨gnav (Ext.refl _) (by decide) (by decide), rfl⟩
  ·cases ho
   have h4 : vs 4 = _ := hd ⟨4, .data⟩ (by simp) rfl
   rw [h4] at i4
   clear hd
   have hw5 : IntKind.i64.wrap (lv.x.number + 1) = lv.x.number + 1 := IntWalk.i64_in _ (by omega)
   unfold GivesOp
   go_simp
   try rw [hw5]
   exact ⟨gnav (Ext.refl _) (by decide) (by decide), rfl⟩
  ·cases ho
   clear hd
   unfold GivesOp
   go_simp
   exact ⟨gnav (Ext.refl _) (by decide) (by decide), rfl⟩
  ·cases ho
   have h6 : vs 6 = _ := hd ⟨6, .data⟩ (by simp) rfl
   rw [h6] at i6
   clear hd
   obtain ⟨m0, m1, m2, m3, m4, m5, m6, mf⟩ := blk7 (HW.out.blk HB6.out)
   unfold GivesOp
   go_simp
   exact ⟨gnav (Ext.refl _) (by decide) (by decide), rfl⟩
  ·cases ho
   clear hd
   unfold GivesOp
   go_simp
   exact ⟨gnav (Ext.refl _) (by decide) (by decide), rfl⟩
  ·cases ho
   have h8 : vs 8 = _ := hd ⟨8, .data⟩ (by simp) rfl
   rw [h8] at i8
   clear hd
   obtain ⟨m0, m1, m2, m3, m4, m5, m6, mf⟩ := blk7 (HW.out.blk HB6.out)
   unfold GivesOp
   go_simp
   exact ⟨gnav (Ext.refl _) (by decide) (by decide), rfl⟩
  ·cases ho
   have h5 : vs 5 = _ := hd ⟨5, .data⟩ (by simp) rfl
   rw [h5] at i5
   have h7 : vs 7 = _ := hd ⟨7, .data⟩ (by simp) rfl
   rw [h7] at i7
   have h9 : vs 9 = _ := hd ⟨9, .data⟩ (by simp) rfl
   rw [h9] at i9
   clear hd
   unfold GivesOp
   go_simp
   exact ⟨gnav (Ext.refl _) (by decide) (by decide), rfl⟩
  ·cases ho
   have h10 : vs 10 = _ := hd ⟨10, .data⟩ (by simp) rfl
   rw [h10] at i10
   clear hd
   unfold GivesOp
   go_simp
   exact ⟨gnav ((Ext.refl W).alloc _) (by decide) (by decide), HW.out.alloc _, W.heap.size, rfl, alloc_new W _⟩
  ·cases ho
   obtain ⟨g, cp, h2, hs2⟩ : ∃ (g : Nat) (cp : Nat), vs 2 = .slice (some ⟨g, 0, none⟩) (ln + 1) cp /\ (W.ownsRow w4.heap.size 41 7 (.slice (some ⟨g, 0, none⟩) (ln + 1) cp) (ln + 1) (EVS.flatMap EvV.cells)) := hd ⟨2, .data⟩ (by simp) rfl
   have HS2 := hI hs2
   clear hs2
   rw [h2] at i2
   obtain ⟨y, h11, hs11⟩ : ∃ (y : Nat), vs 11 = .slice (some ⟨y, 0, none⟩) 1 1 /\ (W.heap[y]? = some (.cells #[.int .i64 (lv.x.number + 1), .int .i64 lv.x.known, .int .i64 7, .slice none 0 0, .int .i64 0, .int .i64 0, .int .i64 lv.x.number] 41 (0, 0))) := hd ⟨11, .data⟩ (by simp) rfl
   have HS11 := hI hs11
   clear hs11
   rw [h11] at i11
   clear hd
   refine gives_append elemEv _ _ w4.heap.size _ (ln + 1) (EVS.flatMap EvV.cells) i2 y 1 1 [Value.int .i64 (lv.x.number + 1), .int .i64 lv.x.known, .int .i64 7, .slice none 0 0, .int .i64 0, .int .i64 0, .int .i64 lv.x.number] i11 rfl (by simp [Value.oneCell']) (by omega) (by omega) (by omega) HS2.out (fun j hj => by rw [blk_cell HS11.out]; simp) HW.out.size ?_
   intro g7 cap7 w7 ho7 hg7 hl7 hlt7
   exact ⟨⟨fun _ h => absurd rfl h, fun h => absurd h (by decide), fun _ => trivial⟩, Ext.grown HW.out hg7 (fun k hk => by have hk2 : g = k := (by simpa [Value.ownBlock] using hk); have := (HS2.out.lt g rfl).1; omega), g7, cap7, rfl, ho7⟩
  cases ho
  clear hd
  unfold GivesOp
  go_simp
  exact ⟨gnav (Ext.refl _) (by decide) (by decide), rfl⟩
 intro vs W hW hR
 rw [if_neg (by decide +kernel)]
 obtain ⟨g, cp, h12, hs12⟩ : ∃ (g : Nat) (cp : Nat), vs 12 = .slice (some ⟨g, 0, none⟩) ((ln + 1) + 1) cp /\ (W.ownsRow w4.heap.size 41 7 (.slice (some ⟨g, 0, none⟩) ((ln + 1) + 1) cp) ((ln + 1) + 1) (EVS.flatMap EvV.cells ++ [Value.int .i64 (lv.x.number + 1), .int .i64 lv.x.known, .int .i64 7, .slice none 0 0, .int .i64 0, .int .i64 0, .int .i64 lv.x.number])) := hR 12 (by simp) (by omega)
 have HS12 := hI hs12
 clear hs12
 have h13 : vs 13 = .pointer (some ⟨y4, 6, none⟩) := hR 13 (by simp) (by omega)
 have hbv := hW.blk HBV.out
 unfold ClmO at hbv
 obtain ⟨z0, z1, z2, z3, z4, z5, z6, zf⟩ := blk7 hbv
 have hlz := blk_lt hbv
 clear hbv
 refine wpOp_lastG rfl ?_
 change wpList _ _ _ [⟨none, .store _ (.tmp 45) (.tmp 44), _, _, _, none⟩] _ _
 simp only [acts, dstAt, List.range, List.range.loop, List.foldl_cons, List.foldl_nil, h12, h13]
 go_simp
 have hW2 : Ext w4 W := hW
 clear hR hW h12 h13
 have HW2 := hI hW2
 clear hW2
 have HVE := hI (show (EVS ++ [vEv (lv.x.number + 1) lv.x.known lv.x.number]).flatMap EvV.cells = EVS.flatMap EvV.cells ++ [Value.int .i64 (lv.x.number + 1), .int .i64 lv.x.known, .int .i64 7, .slice none 0 0, .int .i64 0, .int .i64 0, .int .i64 lv.x.number] by simp [EvV.cells, vEv, voidEv])
 go_upto_region 6 with fail
 obtain ⟨w5, hw5⟩ : ∃ w5, w5 = W.setCell ⟨y4, 6, none⟩ (.slice (some ⟨g, 0, none⟩) (ln + 1 + 1) cp) := ⟨_, rfl⟩
 have hcs : Chg [y4] W w5 := by rw [hw5]; exact (Chg.refl [y4] _).setCell (Or.inl (by simp)) _
 have hbv := HW2.out.blk HBV.out
 unfold ClmO at hbv
 have HBV5 := hI (show w5.heap[y4]? = some (ClmO c.id c.policy c.risk c.hour c.peril c.area (.slice (some ⟨g, 0, none⟩) (ln + 1 + 1) cp)) by rw [hw5]; exact heap_setCell_same W y4 6 _ _ _ hbv)
 rw [<- hw5]
 have hy4l := blk_lt HBV.out
 have hz13 := (HX2.out.trans HX3.out).size
 have hy4w := HYS.out.1
 have hy5w := HYS.out.2.1
 have HBC5 := hI (hcs.blk (HW2.out.blk HBC.out) (by simp; exact fun e => HYS.out.2.2 e.symm))
 have HX5 := hI (show Ext w1 w5 from hcs.ext (HX14.out.trans HW2.out) (fun y hy => by simp at hy; omega))
 have hb65 := blk_lt HB6.out
 have HB65 := hI (hcs.blk (HW2.out.blk HB6.out) (by simp; omega))
 have HB35 := hI (hcs.blk (HW2.out.blk HB34.out) (by simp; omega))
 have HO5 := hI (owns_chg HS12.out hcs (fun q hq hm => by have := (HS12.out.lt q hq).1; simp only [List.mem_singleton] at hm; omega))
 have HEV5 := hI (show IsEvs w5 (c.events ++ [voidEv (lv.x.number + 1) lv.x.known lv.x.number]) (some ⟨g, 0, none⟩) (ln + 1 + 1) cp from by
  have ho := HO5.out
  rw [<- HVE.out] at ho
  have hi := evs_of_own (vs := EVS ++ [vEv (lv.x.number + 1) lv.x.known lv.x.number]) (by simp [HEL.out]) ho (fun u hu => by
   rcases List.mem_append.1 hu with h | h
   ·exact (HITS.out u h).ext HX5.out
   simp only [List.mem_singleton] at h; rw [h]; exact IsIts.nil _)
  rw [List.map_append, <- HEVE.out] at hi
  exact hi)
 clear hw5 hcs hbv z0 z1 z2 z3 z4 z5 z6 zf hlz
 obtain ⟨EVT, hrT, hET, hiT⟩ := HEV.out.take (k := ln) (by omega)
 have HETE := hI (show l = EVT.map (·.x) by rw [<- hET, HCL.out, HLN.out]; simp)
 have HETL := hI (show EVT.length = ln from hrT.1.symm)
 have HSRT := hI (ev_src hrT)
 have HITT := hI hiT
 have hec : ln <= ec := hrT.2.1
 have hec2 : (ln : Int) <= (ec : Int) := by omega
 have hln0' : (0 : Int) <= (ln : Int) := by omega
 have e1 : (((ln + 1 : Nat) : Int) - 1) = (ln : Int) := by omega
 clear hrT hET hiT
 have HOE := hI (show (w5.alloc (.cells #[] 41)).ownsRow w5.heap.size 41 7 (.slice (some ⟨w5.heap.size, 0, none⟩) 0 0) 0 [] from ⟨rfl, Or.inr ⟨w5.heap.size, 0, #[], rfl, Nat.le_refl _, alloc_new w5 _, Nat.le_refl _, by unfold maxLen; omega, rfl, rfl⟩⟩)
 have hz5 := HX5.out.size
 go_wp2_with (at_builtin; refine wpList_append_all elemEv rfl _ _ rfl w5.heap.size _ 0 [] rfl HOE.out _ ln ec (EVT.flatMap EvV.cells) rfl (by rw [ev_flat, HETL.out]) (fun _ => ⟨gb, goff, rfl, fun j hj => ((Ext.refl w5).alloc _).cell (HX5.out.cell (HSRT.out j hj))⟩) (ev_ones _) (by omega) (by omega) (by simp) ?_)
 intro v6 w6 hown6 hg6 hw6
 have HX6 := hI (show Ext w5 w6 from Ext.grown ((Ext.refl w5).alloc _) hg6 (fun k hk => by have hk2 : w5.heap.size = k := (by simpa [Value.ownBlock] using hk); omega))
 try simp only [Nat.zero_add, List.nil_append] at hown6
 obtain ⟨a6, c6, hv6⟩ := owns_formG hown6
 subst hv6
 have HO6 := hI hown6
 have HBC6 := hI (HX6.out.blk HBC5.out)
 clear hown6 hg6 hw6
 have hbc6 := HBC6.out
 unfold ClmO at hbc6
 obtain ⟨z0, z1, z2, z3, z4, z5, z6, zf⟩ := blk7 hbc6
 have hlz := blk_lt hbc6
 go_upto_region 7 with fail
 obtain ⟨w7, hw7⟩ : ∃ w7, w7 = w6.setCell ⟨y5, 6, none⟩ (.slice a6 ln c6) := ⟨_, rfl⟩
 have hcs : Chg [y5] w6 w7 := by rw [hw7]; exact (Chg.refl [y5] _).setCell (Or.inl (by simp)) _
 have HBC7 := hI (show w7.heap[y5]? = some (ClmO c.id c.policy c.risk c.hour c.peril c.area (.slice a6 ln c6)) by rw [hw7]; exact heap_setCell_same w6 y5 6 _ _ _ hbc6)
 rw [<- hw7]
 have hy5l := blk_lt HBC5.out
 have hneq := HYS.out.2.2
 have HBV7 := hI (hcs.blk (HX6.out.blk HBV5.out) (by simp; exact hneq))
 have HB67 := hI (hcs.blk (HX6.out.blk HB65.out) (by simp; omega))
 have HB37 := hI (hcs.blk (HX6.out.blk HB35.out) (by simp; omega))
 have HX7 := hI (show Ext w1 w7 from hcs.ext (HX5.out.trans HX6.out) (fun y hy => by simp at hy; omega))
 have HEV7 := hI (show IsEvs w7 (c.events ++ [voidEv (lv.x.number + 1) lv.x.known lv.x.number]) (some ⟨g, 0, none⟩) (ln + 1 + 1) cp from by
  have hy5w4 := blk_lt HBC.out
  have ho := owns_chg (owns_ext HO5.out HX6.out) hcs (fun q hq hm => by have := (HO5.out.lt q hq).1; simp only [List.mem_singleton] at hm; omega)
  rw [<- HVE.out] at ho
  have hi := evs_of_own (vs := EVS ++ [vEv (lv.x.number + 1) lv.x.known lv.x.number]) (by simp [HEL.out]) ho (fun u hu => by
   rcases List.mem_append.1 hu with h | h
   ·exact (HITS.out u h).ext HX7.out
   simp only [List.mem_singleton] at h; rw [h]; exact IsIts.nil _)
  rw [List.map_append, <- HEVE.out] at hi
  exact hi)
 have HRW7 := hI (show IsRows w7 7 EvV.cells (EVS ++ [vEv (lv.x.number + 1) lv.x.known lv.x.number]) (some ⟨g, 0, none⟩) (ln + 1 + 1) cp from by
  have hy5w4 := blk_lt HBC.out
  have ho := owns_chg (owns_ext HO5.out HX6.out) hcs (fun q hq hm => by have := (HO5.out.lt q hq).1; simp only [List.mem_singleton] at hm; omega)
  rw [<- HVE.out] at ho
  exact rows_of_own (by simp [HEL.out]) ho)
 have HEVL := hI (show IsEvs w7 l a6 ln c6 from by
  have ho := owns_chg HO6.out hcs (fun q hq hm => by have := (HO6.out.lt q hq).1; simp only [List.mem_singleton] at hm; omega)
  rw [HETE.out]
  exact evs_of_own HETL.out.symm ho (fun u hu => (HITT.out u hu).ext HX7.out))
 clear hw7 hcs hbc6 z0 z1 z2 z3 z4 z5 z6 zf hlz
 have HFIT := hI (show ∀ y ∈ c.events, fitEv y from fun y hy => by
  have := HCLM.out.2.2.2.2.2 y hy
  exact fit_small this.2.1 (by have := this.2.2.1; omega) this.2.2.2.1 (by have := this.2.2.2.2.1; omega))
 have HFV := hI (show ∀ n k t : Int, 0 <= n -> n <= 2000 -> 0 <= t -> t <= 2000 -> fitEv (voidEv n k t) from fun n k t h1 h2 h3 h4 => fit_small h1 h2 h3 h4)
 obtain ⟨AL, hAL⟩ : ∃ AL, AL = (effL l 876599).map (·.number) := ⟨_, rfl⟩
 obtain ⟨YL, hYL⟩ : ∃ YL, YL = (effL c.events 876599).map (·.number) := ⟨_, rfl⟩
 have HALL := hI hAL
 have HYLL := hI hYL
 have HE1 := hI (fun W (hW : Ext w7 W) => effs_calls { c with events := c.events ++ [voidEv (lv.x.number + 1) lv.x.known lv.x.number] } (some ⟨g, 0, none⟩) (ln + 1 + 1) cp 876599 W (HEV7.out.ext hW) (by omega) (fun y hy => by
  rcases List.mem_append.1 hy with h | h
  ·exact HFIT.out y h
  simp only [List.mem_singleton] at h; rw [h]; exact HFV.out _ _ _ (by omega) (by omega) (by omega) (by omega)))
 have HE2 := hI (fun W (hW : Ext w7 W) => effs_calls { c with events := l } a6 ln c6 876599 W (HEVL.out.ext hW) (by omega) (fun y hy => HFIT.out y (by rw [HCL.out]; exact List.mem_append_left _ hy)))
 unfold ClmArg at HE1 HE2
 dsimp only at HE1 HE2
 rw [HP1.out, List.map_append, <- hAL] at HE1
 rw [<- hAL] at HE2
 have hbv7 := HBV7.out
 have hbc7 := HBC7.out
 unfold ClmO at hbv7 hbc7
 obtain ⟨b0, b1, b2, b3', b4, b5, b6, bf⟩ := blk7 hbv7
 obtain ⟨z0, z1, z2, z3, z4, z5, z6, zf⟩ := blk7 hbc7
 clear hAL hYL hbv7 hbc7
 refine wp_region_grow (m := 6) [4, 5] (GrG w7) GrE (GrP (vd7R c g ln cp a6 c6 lv AL)) (by kernel_rfl) (by kernel_rfl) ((Ext.refl w7).drew) ?_ ?_ ?_
 ·intro i k v W W' hi hk hne hout h hE
  have hE : Ext W W' := hE
  have hi' := ltc6 hi
  clear hi hk hne hout
  rcases hi' with rfl | rfl | rfl | rfl | rfl | rfl
  ·exact h
  ·obtain ⟨p1, q1, e0, h⟩ := h
   exact ⟨p1, q1, e0, h.mono hE.sub⟩
  ·exact h
  ·obtain ⟨p3, q3, e0, h⟩ := h
   exact ⟨p3, q3, e0, h.mono hE.sub⟩
  ·obtain ⟨p1, q1, e0, h⟩ := h
   exact ⟨p1, q1, e0, h.mono hE.sub⟩
  obtain ⟨p3, q3, e0, h⟩ := h
  exact ⟨p3, q3, e0, h.mono hE.sub⟩
 ·intro q op hq ho vs W hW hd ρ hρ
  have hq' := ltc6 hq
  clear hq
  have o7 : ρ (.tmp 7) = .pointer (some ⟨y4, 0, none⟩) := hρ.out 7 rfl
  have i0 := hρ.i 0 54
  have o8 : ρ (.tmp 8) = .pointer (some ⟨y5, 0, none⟩) := hρ.out 8 rfl
  have i2 := hρ.i 2 56
  have i1 := hρ.i 1 55
  have i3 := hρ.i 3 57
  have hc := hρ.const
  have hfn := hρ.func
  clear hρ
  have HW := hI (show Ext w7 W from hW)
  rcases hq' with rfl | rfl | rfl | rfl | rfl | rfl
  ·cases ho
   clear hd
   have g0 := HW.out.cell b0
   have g1 := HW.out.cell b1
   have g2 := HW.out.cell b2
   have g3 := HW.out.cell b3'
   have g4 := HW.out.cell b4
   have g5 := HW.out.cell b5
   have g6 := HW.out.cell b6
   unfold GivesOp
   go_simp
   exact ⟨Ext.refl W, rfl⟩
  ·cases ho
   have h0 : vs 0 = _ := hd ⟨0, .data⟩ (by simp) rfl
   rw [h0] at i0
   clear hd
   unfold GivesOp
   go_simp
   refine (HE1.out W HW.out).mono ?_
   rintro r5 w5 ⟨a5, c5, rfl, hi5, hx5⟩
   simp only [List.length_append] at hi5 ⊢
   exact ⟨_, rfl, hx5, HW.out.trans hx5, a5, c5, rfl, hi5⟩
  ·cases ho
   clear hd
   have g0 := HW.out.cell z0
   have g1 := HW.out.cell z1
   have g2 := HW.out.cell z2
   have g3 := HW.out.cell z3
   have g4 := HW.out.cell z4
   have g5 := HW.out.cell z5
   have g6 := HW.out.cell z6
   unfold GivesOp
   go_simp
   exact ⟨Ext.refl W, rfl⟩
  ·cases ho
   have h2 : vs 2 = _ := hd ⟨2, .data⟩ (by simp) rfl
   rw [h2] at i2
   clear hd
   unfold GivesOp
   go_simp
   refine (HE2.out W HW.out).mono ?_
   rintro r5 w5 ⟨a5, c5, rfl, hi5, hx5⟩
   exact ⟨_, rfl, hx5, HW.out.trans hx5, a5, c5, rfl, hi5⟩
  ·cases ho
   obtain ⟨p1, q1, h1, hs1⟩ : ∃ (p1 : OA) (q1 : Nat), vs 1 = .slice p1 (AL.length + 1) q1 /\ IsIntF W (AL ++ [lv.x.number + 1]) p1 (AL.length + 1) := hd ⟨1, .data⟩ (by simp) rfl
   have HS1 := hI hs1
   clear hs1
   rw [h1] at i1
   clear hd
   unfold GivesOp
   go_simp
   exact ⟨Ext.refl W, _, _, rfl, HS1.out⟩
  cases ho
  obtain ⟨p3, q3, h3, hs3⟩ : ∃ (p3 : OA) (q3 : Nat), vs 3 = .slice p3 AL.length q3 /\ IsIntF W AL p3 AL.length := hd ⟨3, .data⟩ (by simp) rfl
  have HS3 := hI hs3
  clear hs3
  rw [h3] at i3
  clear hd
  unfold GivesOp
  go_simp
  exact ⟨Ext.refl W, _, _, rfl, HS3.out⟩
 intro vs W hW hR
 rw [if_pos (by decide +kernel)]
 obtain ⟨p1, q1, h4, hs4⟩ : ∃ (p1 : OA) (q1 : Nat), vs 4 = .slice p1 (AL.length + 1) q1 /\ IsIntF W (AL ++ [lv.x.number + 1]) p1 (AL.length + 1) := hR 4 (by simp) (by omega)
 have HS4 := hI hs4
 clear hs4
 obtain ⟨p3, q3, h5, hs5⟩ : ∃ (p3 : OA) (q3 : Nat), vs 5 = .slice p3 AL.length q3 /\ IsIntF W AL p3 AL.length := hR 5 (by simp) (by omega)
 have HS5 := hI hs5
 clear hs5
 simp only [acts, dstAt, List.range, List.range.loop, List.foldl_cons, List.foldl_nil, h4, h5]
 go_simp
 have hW2 : Ext w7 W := hW
 clear hR hW h4 h5
 obtain ⟨wA, rfl⟩ : ∃ wA : World, wA = W := ⟨_, rfl⟩
 have HW2 := hI hW2
 clear hW2 b0 b1 b2 b3' b4 b5 b6 bf z0 z1 z2 z3 z4 z5 z6 zf
 have HA := HS4
 have HB := HS5
 have hbvW := HW2.out.blk HBV7.out
 have HBVW := hI hbvW
 unfold ClmO at hbvW
 obtain ⟨b0, b1, b2, b3', b4, b5, b6, bf⟩ := blk7 hbvW
 have hlb := blk_lt hbvW
 obtain ⟨gv, rfl⟩ : ∃ gv, gv = g := ⟨_, rfl⟩
 obtain ⟨cpv, rfl⟩ : ∃ cpv, cpv = cp := ⟨_, rfl⟩
 clear hbvW
 go_upto_region 9 with fail
 obtain ⟨w9, hw9⟩ : ∃ w9, w9 = wA.alloc (.cells #[.int .i64 c.id, .int .i64 c.policy, .int .i64 c.risk, .int .i64 c.hour, .int .i64 c.peril, .int .i64 c.area, .slice (some ⟨gv, 0, none⟩) (ln + 1 + 1) cpv] 33) := ⟨_, rfl⟩
 have hx9 : Ext wA w9 := by rw [hw9]; exact (Ext.refl _).alloc _
 have HB11 := hI (show w9.heap[wA.heap.size]? = some (ClmO c.id c.policy c.risk c.hour c.peril c.area (.slice (some ⟨gv, 0, none⟩) (ln + 1 + 1) cpv)) by rw [hw9]; exact alloc_new wA _)
 obtain ⟨b11, hb11⟩ : ∃ b11, b11 = wA.heap.size := ⟨_, rfl⟩
 rw [<- hw9, <- hb11]
 rw [<- hb11] at HB11
 have hb11A : wA.heap.size <= b11 := by omega
 have hb117 : w7.heap.size <= b11 := by have := HW2.out.size; omega
 have HX9 := hI (show Ext w7 w9 from HW2.out.trans hx9)
 have HXW9 := hI hx9
 have HBV9 := hI (hx9.blk HBVW.out)
 obtain ⟨EV2, hEV2⟩ : ∃ EV2, EV2 = EVS ++ [vEv (lv.x.number + 1) lv.x.known lv.x.number] := ⟨_, rfl⟩
 rw [<- hEV2] at HRW7
 have HEV2 := hI hEV2
 have HEL2 := hI (show EV2.length = ln + 1 + 1 from HRW7.out.1.symm)
 have HSRC9 := hI (ev_src (HRW7.out.mono HX9.out.sub))
 have HB6 := hI (HX9.out.blk HB67.out)
 clear hw9 hb11 hEV2 b0 b1 b2 b3' b4 b5 b6 bf hlb
 refine wp_region_grow (m := 16) [14, 15] (GrG w9) (GnAv 3 14) (GrP (vd9R w9 b6' y4 b11 lv gv ln cpv EV2)) (by kernel_rfl) (by kernel_rfl) ((Ext.refl w9).drew) ?_ ?_ ?_
 ·intro i k v W W' hi hk hne hout h hE
  have hi' : i = 0 \/ i = 1 \/ i = 2 \/ i = 3 \/ i = 4 \/ i = 5 \/ i = 6 \/ i = 7 \/ i = 8 \/ i = 9 \/ i = 10 \/ i = 11 \/ i = 12 \/ i = 13 \/ i = 14 \/ i = 15 := by omega
  clear hi hk
  by_cases hk : k = 3
  ·subst hk
   obtain ⟨x, hE, hx0⟩ := hE.2.1 rfl
   rcases hi' with rfl | rfl | rfl | rfl | rfl | rfl | rfl | rfl | rfl | rfl | rfl | rfl | rfl | rfl | rfl | rfl
   ·exact absurd hout (by decide +kernel)
   ·exact h
   ·exact h
   ·exact absurd rfl hne
   ·exact h
   ·exact h
   ·exact h
   ·exact h
   ·exact h
   ·exact h
   ·exact h
   ·exact h
   ·exact h
   ·obtain ⟨y, e0, h⟩ := h
    exact ⟨y, e0, hE.blk h (by simp only [List.mem_singleton]; intro e; subst e; rw [h] at hx0; cases hx0)⟩
   ·exact absurd hout (by decide +kernel)
   exact h
  by_cases hk : k = 14
  ·subst hk
   rcases hi' with rfl | rfl | rfl | rfl | rfl | rfl | rfl | rfl | rfl | rfl | rfl | rfl | rfl | rfl | rfl | rfl
   ·exact absurd hout (by decide +kernel)
   ·exact h
   ·exact h
   ·exact absurd hout (by decide +kernel)
   ·exact h
   ·exact h
   ·exact h
   ·exact h
   ·exact h
   ·exact h
   ·exact h
   ·exact h
   ·exact h
   ·exact absurd hout (by decide +kernel)
   ·exact absurd rfl hne
   exact h
  have hE : Ext W W' := (hE.1 ‹_› ‹_›)
  rcases hi' with rfl | rfl | rfl | rfl | rfl | rfl | rfl | rfl | rfl | rfl | rfl | rfl | rfl | rfl | rfl | rfl
  ·obtain ⟨g, e0, h⟩ := h
   exact ⟨g, e0, ⟨h.1, hE.blk h.2⟩⟩
  ·exact h
  ·exact h
  ·obtain ⟨g, cp, e0, h⟩ := h
   exact ⟨g, cp, e0, owns_extG h hE⟩
  ·exact h
  ·exact h
  ·exact h
  ·exact h
  ·exact h
  ·exact h
  ·exact h
  ·exact h
  ·exact h
  ·obtain ⟨y, e0, h⟩ := h
   exact ⟨y, e0, hE.blk h⟩
  ·obtain ⟨g, cp, e0, h⟩ := h
   exact ⟨g, cp, e0, owns_extG h hE⟩
  exact h
 ·intro q op hq ho vs W hW hd ρ hρ
  have hq' : q = 0 \/ q = 1 \/ q = 2 \/ q = 3 \/ q = 4 \/ q = 5 \/ q = 6 \/ q = 7 \/ q = 8 \/ q = 9 \/ q = 10 \/ q = 11 \/ q = 12 \/ q = 13 \/ q = 14 \/ q = 15 := by omega
  clear hq
  have o7 : ρ (.tmp 7) = .pointer (some ⟨y4, 0, none⟩) := hρ.out 7 rfl
  have i1 := hρ.i 1 60
  have i0 := hρ.i 0 59
  have i2 := hρ.i 2 61
  have o6 : ρ (.tmp 6) = .pointer (some ⟨b6', 0, none⟩) := hρ.out 6 rfl
  have i4 := hρ.i 4 63
  have i5 := hρ.i 5 64
  have i7 := hρ.i 7 66
  have i9 := hρ.i 9 68
  have i10 := hρ.i 10 69
  have i6 := hρ.i 6 65
  have i8 := hρ.i 8 67
  have i11 := hρ.i 11 70
  have i12 := hρ.i 12 71
  have i3 := hρ.i 3 62
  have i13 := hρ.i 13 72
  have o11 : ρ (.tmp 11) = .pointer (some ⟨b11, 0, none⟩) := hρ.out 11 rfl
  have hc := hρ.const
  have hfn := hρ.func
  clear hρ
  have HW := hI (show Ext w9 W from hW)
  rcases hq' with rfl | rfl | rfl | rfl | rfl | rfl | rfl | rfl | rfl | rfl | rfl | rfl | rfl | rfl | rfl | rfl
  ·cases ho
   clear hd
   unfold GivesOp
   go_simp
   exact ⟨gnav ((Ext.refl W).alloc _) (by decide) (by decide), HW.out.alloc _, W.heap.size, rfl, HW.out.size, alloc_new W _⟩
  ·cases ho
   clear hd
   unfold GivesOp
   go_simp
   exact ⟨gnav (Ext.refl _) (by decide) (by decide), rfl⟩
  ·cases ho
   have h1 : vs 1 = _ := hd ⟨1, .data⟩ (by simp) rfl
   rw [h1] at i1
   clear hd
   have hq2 := HW.out.blk HBV9.out
   unfold ClmO at hq2
   obtain ⟨m0, m1, m2, m3, m4, m5, m6, mf⟩ := blk7 hq2
   unfold GivesOp
   go_simp
   exact ⟨gnav (Ext.refl _) (by decide) (by decide), rfl⟩
  ·cases ho
   obtain ⟨g, h0, hs0⟩ : ∃ (g : Nat), vs 0 = .slice (some ⟨g, 0, none⟩) 0 0 /\ (w9.heap.size <= g /\ W.heap[g]? = some (.cells #[] 41 (0, 0))) := hd ⟨0, .data⟩ (by simp) rfl
   have HS0 := hI hs0
   clear hs0
   rw [h0] at i0
   have h2 : vs 2 = _ := hd ⟨2, .data⟩ (by simp) rfl
   rw [h2] at i2
   clear hd
   refine gives_append_off elemEv _ _ w9.heap.size _ 0 [] i0 gv 0 (ln + 1 + 1) cpv (EV2.flatMap EvV.cells) i2 (by rw [ev_flat, HEL2.out]) (ev_ones _) (by omega) (by omega) (by omega) ⟨rfl, Or.inr ⟨g, 0, #[], rfl, HS0.out.1, HS0.out.2, Nat.le_refl _, by unfold maxLen; omega, rfl, rfl⟩⟩ (fun j hj => HW.out.cell (HSRC9.out j hj)) HW.out.size ?_
   intro g6 cap6 w6 ho6 hg6 hl6 hlt6
   simp only [Nat.zero_add, List.nil_append] at ho6 ⊢
   exact ⟨⟨fun h => absurd rfl h, fun _ => ⟨g, (grown_chg hg6).weak (fun y hy => by simpa [rowOf, Value.ownBlock] using hy), HS0.out.2⟩, fun h => absurd h (by decide)⟩, Ext.grown HW.out hg6 (fun k hk => by have hk2 : g = k := (by simpa [Value.ownBlock] using hk); have := HS0.out.1; omega), g6, cap6, rfl, ho6⟩
  ·cases ho
   clear hd
   unfold GivesOp
   go_simp
   exact ⟨gnav (Ext.refl _) (by decide) (by decide), rfl⟩
  ·cases ho
   have h4 : vs 4 = _ := hd ⟨4, .data⟩ (by simp) rfl
   rw [h4] at i4
   clear hd
   obtain ⟨m0, m1, m2, m3, m4, m5, m6, mf⟩ := blk7 (HW.out.blk HB6.out)
   unfold GivesOp
   go_simp
   exact ⟨gnav (Ext.refl _) (by decide) (by decide), rfl⟩
  ·cases ho
   have h5 : vs 5 = _ := hd ⟨5, .data⟩ (by simp) rfl
   rw [h5] at i5
   clear hd
   have hw6 : IntKind.i64.wrap (lv.x.number + 2) = lv.x.number + 2 := IntWalk.i64_in _ (by omega)
   unfold GivesOp
   go_simp
   try rw [hw6]
   exact ⟨gnav (Ext.refl _) (by decide) (by decide), rfl⟩
  ·cases ho
   clear hd
   unfold GivesOp
   go_simp
   exact ⟨gnav (Ext.refl _) (by decide) (by decide), rfl⟩
  ·cases ho
   have h7 : vs 7 = _ := hd ⟨7, .data⟩ (by simp) rfl
   rw [h7] at i7
   clear hd
   obtain ⟨m0, m1, m2, m3, m4, m5, m6, mf⟩ := blk7 (HW.out.blk HB6.out)
   unfold GivesOp
   go_simp
   exact ⟨gnav (Ext.refl _) (by decide) (by decide), rfl⟩
  ·cases ho
   clear hd
   unfold GivesOp
   go_simp
   exact ⟨gnav (Ext.refl _) (by decide) (by decide), rfl⟩
  ·cases ho
   have h9 : vs 9 = _ := hd ⟨9, .data⟩ (by simp) rfl
   rw [h9] at i9
   clear hd
   obtain ⟨m0, m1, m2, m3, m4, m5, m6, mf⟩ := blk7 (HW.out.blk HB6.out)
   unfold GivesOp
   go_simp
   exact ⟨gnav (Ext.refl _) (by decide) (by decide), rfl⟩
  ·cases ho
   have h10 : vs 10 = _ := hd ⟨10, .data⟩ (by simp) rfl
   rw [h10] at i10
   clear hd
   have hw11 : IntKind.i64.wrap (lv.x.number + 1) = lv.x.number + 1 := IntWalk.i64_in _ (by omega)
   unfold GivesOp
   go_simp
   try rw [hw11]
   exact ⟨gnav (Ext.refl _) (by decide) (by decide), rfl⟩
  ·cases ho
   have h6 : vs 6 = _ := hd ⟨6, .data⟩ (by simp) rfl
   rw [h6] at i6
   have h8 : vs 8 = _ := hd ⟨8, .data⟩ (by simp) rfl
   rw [h8] at i8
   have h11 : vs 11 = _ := hd ⟨11, .data⟩ (by simp) rfl
   rw [h11] at i11
   clear hd
   unfold GivesOp
   go_simp
   exact ⟨gnav (Ext.refl _) (by decide) (by decide), rfl⟩
  ·cases ho
   have h12 : vs 12 = _ := hd ⟨12, .data⟩ (by simp) rfl
   rw [h12] at i12
   clear hd
   unfold GivesOp
   go_simp
   exact ⟨gnav ((Ext.refl W).alloc _) (by decide) (by decide), HW.out.alloc _, W.heap.size, rfl, alloc_new W _⟩
  ·cases ho
   obtain ⟨g, cp, h3, hs3⟩ : ∃ (g : Nat) (cp : Nat), vs 3 = .slice (some ⟨g, 0, none⟩) (ln + 1 + 1) cp /\ (W.ownsRow w9.heap.size 41 7 (.slice (some ⟨g, 0, none⟩) (ln + 1 + 1) cp) (ln + 1 + 1) (EV2.flatMap EvV.cells)) := hd ⟨3, .data⟩ (by simp) rfl
   have HS3 := hI hs3
   clear hs3
   rw [h3] at i3
   obtain ⟨y, h13, hs13⟩ : ∃ (y : Nat), vs 13 = .slice (some ⟨y, 0, none⟩) 1 1 /\ (W.heap[y]? = some (.cells #[.int .i64 (lv.x.number + 2), .int .i64 lv.x.known, .int .i64 7, .slice none 0 0, .int .i64 0, .int .i64 0, .int .i64 (lv.x.number + 1)] 41 (0, 0))) := hd ⟨13, .data⟩ (by simp) rfl
   have HS13 := hI hs13
   clear hs13
   rw [h13] at i13
   clear hd
   refine gives_append elemEv _ _ w9.heap.size _ (ln + 1 + 1) (EV2.flatMap EvV.cells) i3 y 1 1 [Value.int .i64 (lv.x.number + 2), .int .i64 lv.x.known, .int .i64 7, .slice none 0 0, .int .i64 0, .int .i64 0, .int .i64 (lv.x.number + 1)] i13 rfl (by simp [Value.oneCell']) (by omega) (by omega) (by omega) HS3.out (fun j hj => by rw [blk_cell HS13.out]; simp) HW.out.size ?_
   intro g7 cap7 w7 ho7 hg7 hl7 hlt7
   exact ⟨⟨fun _ h => absurd rfl h, fun h => absurd h (by decide), fun _ => trivial⟩, Ext.grown HW.out hg7 (fun k hk => by have hk2 : g = k := (by simpa [Value.ownBlock] using hk); have := (HS3.out.lt g rfl).1; omega), g7, cap7, rfl, ho7⟩
  cases ho
  clear hd
  unfold GivesOp
  go_simp
  exact ⟨gnav (Ext.refl _) (by decide) (by decide), rfl⟩
 intro vs W hW hR
 rw [if_neg (by decide +kernel)]
 obtain ⟨g, cp, h14, hs14⟩ : ∃ (g : Nat) (cp : Nat), vs 14 = .slice (some ⟨g, 0, none⟩) ((ln + 1 + 1) + 1) cp /\ (W.ownsRow w9.heap.size 41 7 (.slice (some ⟨g, 0, none⟩) ((ln + 1 + 1) + 1) cp) ((ln + 1 + 1) + 1) (EV2.flatMap EvV.cells ++ [Value.int .i64 (lv.x.number + 2), .int .i64 lv.x.known, .int .i64 7, .slice none 0 0, .int .i64 0, .int .i64 0, .int .i64 (lv.x.number + 1)])) := hR 14 (by simp) (by omega)
 have HS14 := hI hs14
 clear hs14
 have h15 : vs 15 = .pointer (some ⟨b11, 6, none⟩) := hR 15 (by simp) (by omega)
 have hbv := hW.blk HB11.out
 unfold ClmO at hbv
 obtain ⟨z0, z1, z2, z3, z4, z5, z6, zf⟩ := blk7 hbv
 have hlz := blk_lt hbv
 clear hbv
 refine wpOp_lastG rfl ?_
 change wpList _ _ _ [⟨none, .store _ (.tmp 74) (.tmp 73), _, _, _, none⟩] _ _
 simp only [acts, dstAt, List.range, List.range.loop, List.foldl_cons, List.foldl_nil, h14, h15]
 go_simp
 have hW2 : Ext w9 W := hW
 clear hR hW h14 h15
 have HW9 := hI hW2
 clear hW2
 have HO9 := HS14
 go_upto_region 10 with fail
 obtain ⟨w10, hw10⟩ : ∃ w10, w10 = W.setCell ⟨b11, 6, none⟩ (.slice (some ⟨g, 0, none⟩) (ln + 1 + 1 + 1) cp) := ⟨_, rfl⟩
 have hcs : Chg [b11] W w10 := by rw [hw10]; exact (Chg.refl [b11] _).setCell (Or.inl (by simp)) _
 have hbu := HW9.out.blk HB11.out
 unfold ClmO at hbu
 have HBU := hI (show w10.heap[b11]? = some (ClmO c.id c.policy c.risk c.hour c.peril c.area (.slice (some ⟨g, 0, none⟩) (ln + 1 + 1 + 1) cp)) by rw [hw10]; exact heap_setCell_same W b11 6 _ _ _ hbu)
 rw [<- hw10]
 have hb11l := blk_lt HB11.out
 have HX10 := hI (show Ext w7 w10 from hcs.ext (HX9.out.trans HW9.out) (fun y hy => by simp at hy; omega))
 have HXA10 := hI (show Ext wA w10 from hcs.ext (HXW9.out.trans HW9.out) (fun y hy => by simp at hy; omega))
 have HB310 := hI (HX10.out.blk HB37.out)
 have HB610 := hI (HX10.out.blk HB67.out)
 have HO10 := hI (owns_chg HO9.out hcs (fun q hq hm => by have := (HO9.out.lt q hq).1; simp only [List.mem_singleton] at hm; omega))
 have HX110 := hI (HX7.out.trans HX10.out)
 have HEVU := hI (show IsEvs w10 (c.events ++ [voidEv (lv.x.number + 1) lv.x.known lv.x.number] ++ [voidEv (lv.x.number + 2) lv.x.known (lv.x.number + 1)]) (some ⟨g, 0, none⟩) (ln + 1 + 1 + 1) cp from by
  have ho := HO10.out
  rw [show EV2.flatMap EvV.cells ++ [Value.int .i64 (lv.x.number + 2), .int .i64 lv.x.known, .int .i64 7, .slice none 0 0, .int .i64 0, .int .i64 0, .int .i64 (lv.x.number + 1)] = (EV2 ++ [vEv (lv.x.number + 2) lv.x.known (lv.x.number + 1)]).flatMap EvV.cells by simp [EvV.cells, vEv, voidEv]] at ho
  have hi := evs_of_own (vs := EV2 ++ [vEv (lv.x.number + 2) lv.x.known (lv.x.number + 1)]) (by simp [HEL2.out]) ho (fun u hu => by
   rcases List.mem_append.1 hu with h | h
   ·rw [HEV2.out] at h
    rcases List.mem_append.1 h with h | h
    ·exact (HITS.out u h).ext HX110.out
    simp only [List.mem_singleton] at h; rw [h]; exact IsIts.nil _
   simp only [List.mem_singleton] at h; rw [h]; exact IsIts.nil _)
  rw [HEV2.out, List.map_append, List.map_append, <- HEVE.out] at hi
  exact hi)
 have HE3 := hI (fun W (hW : Ext w10 W) => effs_calls { c with events := c.events ++ [voidEv (lv.x.number + 1) lv.x.known lv.x.number] ++ [voidEv (lv.x.number + 2) lv.x.known (lv.x.number + 1)] } (some ⟨g, 0, none⟩) (ln + 1 + 1 + 1) cp 876599 W (HEVU.out.ext hW) (by omega) (fun y hy => by
  rcases List.mem_append.1 hy with h | h
  ·rcases List.mem_append.1 h with h | h
   ·exact HFIT.out y h
   simp only [List.mem_singleton] at h; rw [h]; exact HFV.out _ _ _ (by omega) (by omega) (by omega) (by omega)
  simp only [List.mem_singleton] at h; rw [h]; exact HFV.out _ _ _ (by omega) (by omega) (by omega) (by omega)))
 have HE4 := hI (fun W (hW : Ext w10 W) => effs_calls c (some ⟨gb, goff, none⟩) (ln + 1) ec 876599 W (HEV.out.ext (HX110.out.trans hW)) (by omega) HFIT.out)
 unfold ClmArg at HE3 HE4
 dsimp only at HE3 HE4
 rw [HP2.out, List.map_append, <- HYLL.out] at HE3
 rw [<- HYLL.out] at HE4
 have HA10 := hI (show IsIntF w10 (AL ++ [lv.x.number + 1]) p1 (AL.length + 1) from HA.out.mono HXA10.out.sub)
 have HB10 := hI (show IsIntF w10 AL p3 AL.length from HB.out.mono HXA10.out.sub)
 have hbu10 := HBU.out
 unfold ClmO at hbu10
 obtain ⟨z0, z1, z2, z3, z4, z5, z6, zf⟩ := blk7 hbu10
 obtain ⟨b0, b1, b2, b3', b4, b5, b6, b7, b8, b9, b10, b11', b12, bf⟩ := blk13 HB310.out
 dsimp only at b0 b1 b2 b3' b4 b5 b6 b7 b8 b9 b10 b11' b12
 clear hw10 hcs hbu hbu10
 refine wp_region_grow (m := 7) [5, 6] (GrG w10) GrE (GrP (vd10R c b3 gb goff ec g ln cp lv YL)) (by kernel_rfl) (by kernel_rfl) ((Ext.refl w10).drew) ?_ ?_ ?_
 ·intro i k v W W' hi hk hne hout h hE
  have hE : Ext W W' := hE
  have hi' := ltc7 hi
  clear hi hk hne hout
  rcases hi' with rfl | rfl | rfl | rfl | rfl | rfl | rfl
  ·exact h
  ·obtain ⟨p5, q5, e0, h⟩ := h
   exact ⟨p5, q5, e0, h.mono hE.sub⟩
  ·exact h
  ·exact h
  ·obtain ⟨p6, q6, e0, h⟩ := h
   exact ⟨p6, q6, e0, h.mono hE.sub⟩
  ·obtain ⟨p5, q5, e0, h⟩ := h
   exact ⟨p5, q5, e0, h.mono hE.sub⟩
  obtain ⟨p6, q6, e0, h⟩ := h
  exact ⟨p6, q6, e0, h.mono hE.sub⟩
 ·intro q op hq ho vs W hW hd ρ hρ
  have hq' := ltc7 hq
  clear hq
  have o11 : ρ (.tmp 11) = .pointer (some ⟨b11, 0, none⟩) := hρ.out 11 rfl
  have i0 := hρ.i 0 75
  have o3 : ρ (.tmp 3) = .pointer (some ⟨b3, 0, none⟩) := hρ.out 3 rfl
  have i2 := hρ.i 2 77
  have i3 := hρ.i 3 78
  have i1 := hρ.i 1 76
  have i4 := hρ.i 4 79
  have hc := hρ.const
  have hfn := hρ.func
  clear hρ
  have HW := hI (show Ext w10 W from hW)
  rcases hq' with rfl | rfl | rfl | rfl | rfl | rfl | rfl
  ·cases ho
   clear hd
   have g0 := HW.out.cell z0
   have g1 := HW.out.cell z1
   have g2 := HW.out.cell z2
   have g3 := HW.out.cell z3
   have g4 := HW.out.cell z4
   have g5 := HW.out.cell z5
   have g6 := HW.out.cell z6
   unfold GivesOp
   go_simp
   exact ⟨Ext.refl W, rfl⟩
  ·cases ho
   have h0 : vs 0 = _ := hd ⟨0, .data⟩ (by simp) rfl
   rw [h0] at i0
   clear hd
   unfold GivesOp
   go_simp
   refine (HE3.out W HW.out).mono ?_
   rintro r5 w5 ⟨a5, c5, rfl, hi5, hx5⟩
   simp only [List.length_append] at hi5 ⊢
   exact ⟨_, rfl, hx5, HW.out.trans hx5, a5, c5, rfl, hi5⟩
  ·cases ho
   clear hd
   unfold GivesOp
   go_simp
   exact ⟨Ext.refl W, rfl⟩
  ·cases ho
   have h2 : vs 2 = _ := hd ⟨2, .data⟩ (by simp) rfl
   rw [h2] at i2
   clear hd
   have g0 := HW.out.cell b4
   have g1 := HW.out.cell b5
   have g2 := HW.out.cell b6
   have g3 := HW.out.cell b7
   have g4 := HW.out.cell b8
   have g5 := HW.out.cell b9
   have g6 := HW.out.cell b10
   unfold GivesOp
   go_simp
   exact ⟨Ext.refl W, rfl⟩
  ·cases ho
   have h3 : vs 3 = _ := hd ⟨3, .data⟩ (by simp) rfl
   rw [h3] at i3
   clear hd
   unfold GivesOp
   go_simp
   refine (HE4.out W HW.out).mono ?_
   rintro r5 w5 ⟨a5, c5, rfl, hi5, hx5⟩
   exact ⟨_, rfl, hx5, HW.out.trans hx5, a5, c5, rfl, hi5⟩
  ·cases ho
   obtain ⟨p5, q5, h1, hs1⟩ : ∃ (p5 : OA) (q5 : Nat), vs 1 = .slice p5 (YL.length + 1) q5 /\ IsIntF W (YL ++ [lv.x.number + 2]) p5 (YL.length + 1) := hd ⟨1, .data⟩ (by simp) rfl
   have HS1 := hI hs1
   clear hs1
   rw [h1] at i1
   clear hd
   unfold GivesOp
   go_simp
   exact ⟨Ext.refl W, _, _, rfl, HS1.out⟩
  cases ho
  obtain ⟨p6, q6, h4, hs4⟩ : ∃ (p6 : OA) (q6 : Nat), vs 4 = .slice p6 YL.length q6 /\ IsIntF W YL p6 YL.length := hd ⟨4, .data⟩ (by simp) rfl
  have HS4 := hI hs4
  clear hs4
  rw [h4] at i4
  clear hd
  unfold GivesOp
  go_simp
  exact ⟨Ext.refl W, _, _, rfl, HS4.out⟩
 intro vs W hW hR
 rw [if_pos (by decide +kernel)]
 obtain ⟨p5, q5, h5, hs5⟩ : ∃ (p5 : OA) (q5 : Nat), vs 5 = .slice p5 (YL.length + 1) q5 /\ IsIntF W (YL ++ [lv.x.number + 2]) p5 (YL.length + 1) := hR 5 (by simp) (by omega)
 have HS5 := hI hs5
 clear hs5
 obtain ⟨p6, q6, h6, hs6⟩ : ∃ (p6 : OA) (q6 : Nat), vs 6 = .slice p6 YL.length q6 /\ IsIntF W YL p6 YL.length := hR 6 (by simp) (by omega)
 have HS6 := hI hs6
 clear hs6
 simp only [acts, dstAt, List.range, List.range.loop, List.foldl_cons, List.foldl_nil, h5, h6]
 go_simp
 have hW2 : Ext w10 W := hW
 clear hR hW h5 h6
 have HW10 := hI hW2
 have HY1 := HS5
 have HY2 := HS6
 clear hW2 z0 z1 z2 z3 z4 z5 z6 zf b0 b1 b2 b3' b4 b5 b6 b7 b8 b9 b10 b11' b12 bf
 obtain ⟨w11, rfl⟩ : ∃ w11 : World, w11 = W := ⟨_, rfl⟩
 have HA11 := hI (HA10.out.mono HW10.out.sub)
 have HB11' := hI (HB10.out.mono HW10.out.sub)
 have HB611 := hI (HW10.out.blk HB610.out)
 have HALN := hI (show AL.length <= 10 by rw [HALL.out, List.length_map]; have h1 := effL_len l 876599; have h2 := HLN.out; omega)
 have HYLN := hI (show YL.length <= 10 by rw [HYLL.out, List.length_map]; have h1 := effL_len c.events 876599; have h2 := HEN.out; omega)
 obtain ⟨an, han⟩ : ∃ an, an = AL.length := ⟨_, rfl⟩
 obtain ⟨yn, hyn⟩ : ∃ yn, yn = YL.length := ⟨_, rfl⟩
 have HAN := hI han
 have HYN := hI hyn
 rw [<- han] at HA11 HB11' HALN ⊢
 rw [<- hyn] at HY1 HY2 HYLN ⊢
 have hanb := HALN.out
 have hynb := HYLN.out
 clear han hyn
 go_upto_region 11 with fail
 refine wp_region_growLG (n := 105) (m := 26) [25] (GrGZ w11) (GnAi 3 8 14 19) (GrP (vd11R w11 b6' lv AL YL an yn p1 p3 p5 p6 q1 q3 q5 q6)) (by kernel_rfl) (by kernel_rfl) (Nat.le_of_ble_eq_true rfl) ?gd ((Ext.refl w11).drew) ?_ ?_ ?_
 case gd =>
  intro i o j b hi ho hg
  have hi' : i = 0 \/ i = 1 \/ i = 2 \/ i = 3 \/ i = 4 \/ i = 5 \/ i = 6 \/ i = 7 \/ i = 8 \/ i = 9 \/ i = 10 \/ i = 11 \/ i = 12 \/ i = 13 \/ i = 14 \/ i = 15 \/ i = 16 \/ i = 17 \/ i = 18 \/ i = 19 \/ i = 20 \/ i = 21 \/ i = 22 \/ i = 23 \/ i = 24 \/ i = 25 := by omega
  rcases hi' with rfl | rfl | rfl | rfl | rfl | rfl | rfl | rfl | rfl | rfl | rfl | rfl | rfl | rfl | rfl | rfl | rfl | rfl | rfl | rfl | rfl | rfl | rfl | rfl | rfl | rfl <;> (cases ho; first | (cases hg; done) | (cases hg; intro v W h; exact h))
 ·intro i k v W W' hi hk hne hout h hE
  have hi' : i = 0 \/ i = 1 \/ i = 2 \/ i = 3 \/ i = 4 \/ i = 5 \/ i = 6 \/ i = 7 \/ i = 8 \/ i = 9 \/ i = 10 \/ i = 11 \/ i = 12 \/ i = 13 \/ i = 14 \/ i = 15 \/ i = 16 \/ i = 17 \/ i = 18 \/ i = 19 \/ i = 20 \/ i = 21 \/ i = 22 \/ i = 23 \/ i = 24 \/ i = 25 := by omega
  clear hi hk
  by_cases hk : k = 3
  ·subst hk
   obtain ⟨x, hE, hx0⟩ := hE.2 (Or.inl rfl)
   rcases hi' with rfl | rfl | rfl | rfl | rfl | rfl | rfl | rfl | rfl | rfl | rfl | rfl | rfl | rfl | rfl | rfl | rfl | rfl | rfl | rfl | rfl | rfl | rfl | rfl | rfl | rfl
   ·exact h
   ·exact absurd hout (by decide +kernel)
   ·exact h
   ·exact absurd rfl hne
   ·exact h
   ·exact h
   ·exact h
   ·obtain ⟨y, e0, h⟩ := h
    exact ⟨y, e0, hE.blk h (by simp only [List.mem_singleton]; intro e; subst e; rw [h] at hx0; cases hx0)⟩
   ·exact absurd hout (by decide +kernel)
   ·exact h
   ·exact h
   ·exact h
   ·exact absurd hout (by decide +kernel)
   ·exact h
   ·exact absurd hout (by decide +kernel)
   ·exact h
   ·exact h
   ·exact h
   ·exact absurd hout (by decide +kernel)
   ·exact absurd hout (by decide +kernel)
   ·exact h
   ·exact h
   ·exact h
   ·exact h
   ·exact h
   exact h
  by_cases hk : k = 8
  ·subst hk
   rcases hi' with rfl | rfl | rfl | rfl | rfl | rfl | rfl | rfl | rfl | rfl | rfl | rfl | rfl | rfl | rfl | rfl | rfl | rfl | rfl | rfl | rfl | rfl | rfl | rfl | rfl | rfl
   ·exact h
   ·exact absurd hout (by decide +kernel)
   ·exact h
   ·exact absurd hout (by decide +kernel)
   ·exact h
   ·exact h
   ·exact h
   ·exact absurd hout (by decide +kernel)
   ·exact absurd rfl hne
   ·exact h
   ·exact h
   ·exact h
   ·exact absurd hout (by decide +kernel)
   ·exact h
   ·exact absurd hout (by decide +kernel)
   ·exact h
   ·exact h
   ·exact h
   ·exact absurd hout (by decide +kernel)
   ·exact absurd hout (by decide +kernel)
   ·exact h
   ·exact h
   ·exact h
   ·exact h
   ·exact h
   exact h
  by_cases hk : k = 14
  ·subst hk
   obtain ⟨x, hE, hx0⟩ := hE.2 (Or.inr rfl)
   rcases hi' with rfl | rfl | rfl | rfl | rfl | rfl | rfl | rfl | rfl | rfl | rfl | rfl | rfl | rfl | rfl | rfl | rfl | rfl | rfl | rfl | rfl | rfl | rfl | rfl | rfl | rfl
   ·exact h
   ·exact absurd hout (by decide +kernel)
   ·exact h
   ·exact absurd hout (by decide +kernel)
   ·exact h
   ·exact h
   ·exact h
   ·exact absurd hout (by decide +kernel)
   ·exact absurd hout (by decide +kernel)
   ·exact h
   ·exact h
   ·exact h
   ·exact absurd hout (by decide +kernel)
   ·exact h
   ·exact absurd rfl hne
   ·exact h
   ·exact h
   ·exact h
   ·obtain ⟨y, e0, h⟩ := h
    exact ⟨y, e0, hE.blk h (by simp only [List.mem_singleton]; intro e; subst e; rw [h] at hx0; cases hx0)⟩
   ·exact absurd hout (by decide +kernel)
   ·exact h
   ·exact h
   ·exact h
   ·exact h
   ·exact h
   exact h
  by_cases hk : k = 19
  ·subst hk
   rcases hi' with rfl | rfl | rfl | rfl | rfl | rfl | rfl | rfl | rfl | rfl | rfl | rfl | rfl | rfl | rfl | rfl | rfl | rfl | rfl | rfl | rfl | rfl | rfl | rfl | rfl | rfl
   ·exact h
   ·exact absurd hout (by decide +kernel)
   ·exact h
   ·exact absurd hout (by decide +kernel)
   ·exact h
   ·exact h
   ·exact h
   ·exact absurd hout (by decide +kernel)
   ·exact absurd hout (by decide +kernel)
   ·exact h
   ·exact h
   ·exact h
   ·exact absurd hout (by decide +kernel)
   ·exact h
   ·exact absurd hout (by decide +kernel)
   ·exact h
   ·exact h
   ·exact h
   ·exact absurd hout (by decide +kernel)
   ·exact absurd rfl hne
   ·exact h
   ·exact h
   ·exact h
   ·exact h
   ·exact h
   exact h
  have hE : Ext W W' := (hE.1 ‹_› ‹_› ‹_› ‹_›)
  rcases hi' with rfl | rfl | rfl | rfl | rfl | rfl | rfl | rfl | rfl | rfl | rfl | rfl | rfl | rfl | rfl | rfl | rfl | rfl | rfl | rfl | rfl | rfl | rfl | rfl | rfl | rfl
  ·exact h
  ·obtain ⟨g, e0, h⟩ := h
   exact ⟨g, e0, ⟨hE.blk h.1, h.2⟩⟩
  ·exact h
  ·obtain ⟨g, cp, e0, h⟩ := h
   exact ⟨g, cp, e0, owns_extG h hE⟩
  ·exact h
  ·exact h
  ·exact h
  ·obtain ⟨y, e0, h⟩ := h
   exact ⟨y, e0, hE.blk h⟩
  ·obtain ⟨g, cp, e0, h⟩ := h
   exact ⟨g, cp, e0, h.mono hE.sub⟩
  ·exact h
  ·exact h
  ·exact h
  ·obtain ⟨g, e0, h⟩ := h
   exact ⟨g, e0, ⟨hE.blk h.1, h.2⟩⟩
  ·exact h
  ·obtain ⟨g, cp, e0, h⟩ := h
   exact ⟨g, cp, e0, owns_extG h hE⟩
  ·exact h
  ·exact h
  ·exact h
  ·obtain ⟨y, e0, h⟩ := h
   exact ⟨y, e0, hE.blk h⟩
  ·obtain ⟨g, cp, e0, h⟩ := h
   exact ⟨g, cp, e0, h.mono hE.sub⟩
  ·exact h
  ·exact h
  ·exact h
  ·exact h
  ·exact h
  exact h
 ·intro q op hq ho L vs W hqL hcL hW hd ρ hρ
  have hq' : q = 0 \/ q = 1 \/ q = 2 \/ q = 3 \/ q = 4 \/ q = 5 \/ q = 6 \/ q = 7 \/ q = 8 \/ q = 9 \/ q = 10 \/ q = 11 \/ q = 12 \/ q = 13 \/ q = 14 \/ q = 15 \/ q = 16 \/ q = 17 \/ q = 18 \/ q = 19 \/ q = 20 \/ q = 21 \/ q = 22 \/ q = 23 \/ q = 24 \/ q = 25 := by omega
  clear hq
  have o9 : ρ (.tmp 9) = .slice p1 (an + 1) q1 := hρ.out 9 rfl
  have o10 : ρ (.tmp 10) = .slice p3 an q3 := hρ.out 10 rfl
  have i1 := hρ.i 1 81
  have i2 := hρ.i 2 82
  have o6 : ρ (.tmp 6) = .pointer (some ⟨b6', 0, none⟩) := hρ.out 6 rfl
  have i4 := hρ.i 4 84
  have i5 := hρ.i 5 85
  have i6 := hρ.i 6 86
  have i3 := hρ.i 3 83
  have i7 := hρ.i 7 87
  have i0 := hρ.i 0 80
  have i8 := hρ.i 8 88
  have i9 := hρ.i 9 89
  have o12 : ρ (.tmp 12) = .slice p5 (yn + 1) q5 := hρ.out 12 rfl
  have o13 : ρ (.tmp 13) = .slice p6 yn q6 := hρ.out 13 rfl
  have i12 := hρ.i 12 92
  have i13 := hρ.i 13 93
  have i15 := hρ.i 15 95
  have i16 := hρ.i 16 96
  have i17 := hρ.i 17 97
  have i14 := hρ.i 14 94
  have i18 := hρ.i 18 98
  have i11 := hρ.i 11 91
  have i19 := hρ.i 19 99
  have i10 := hρ.i 10 90
  have i20 := hρ.i 20 100
  have i21 := hρ.i 21 101
  have i22 := hρ.i 22 102
  have i23 := hρ.i 23 103
  have i24 := hρ.i 24 104
  have hc := hρ.const
  have hfn := hρ.func
  clear hρ
  have HG := hI hW
  have HW := hI (show Ext w11 W from hW)
  have HQL := hI hqL
  clear hW hqL hcL
  rcases hq' with rfl | rfl | rfl | rfl | rfl | rfl | rfl | rfl | rfl | rfl | rfl | rfl | rfl | rfl | rfl | rfl | rfl | rfl | rfl | rfl | rfl | rfl | rfl | rfl | rfl | rfl
  ·cases ho
   clear hd
   unfold GivesOp
   go_simp
   exact ⟨gnai (Ext.refl _) (by decide) (by decide), HW.out, rfl⟩
  ·cases ho
   clear hd
   unfold GivesOp
   go_simp
   exact ⟨gnai ((Ext.refl W).alloc _) (by decide) (by decide), HW.out.alloc _, W.heap.size, rfl, alloc_new W _, HW.out.size⟩
  ·cases ho
   clear hd
   unfold GivesOp
   go_simp
   exact ⟨gnai (Ext.refl _) (by decide) (by decide), HW.out, rfl⟩
  ·cases ho
   obtain ⟨g, h1, hs1⟩ : ∃ (g : Nat), vs 1 = .slice (some ⟨g, 0, none⟩) 0 0 /\ (W.heap[g]? = some (.cells #[] 3 (0, 0)) /\ w11.heap.size <= g) := hd ⟨1, .data⟩ (by simp) rfl
   have HS1 := hI hs1
   clear hs1
   rw [h1] at i1
   have h2 : vs 2 = _ := hd ⟨2, .data⟩ (by simp) rfl
   rw [h2] at i2
   clear hd
   refine gives_append_any elemInts _ _ w11.heap.size g 0 0 [] i1 _ _ _ (AL.flatMap intCells) i2 (by rw [int_flat, <- HAN.out]) (int_ones _) (by omega) (by omega) ⟨rfl, Or.inr ⟨g, 0, #[], rfl, HS1.out.2, HS1.out.1, Nat.le_refl _, by unfold maxLen; omega, rfl, rfl⟩⟩ (fun hp => by obtain ⟨b, off, e, hc⟩ := int_src HB11'.out hp; exact ⟨b, off, e, fun j hj => HW.out.cell (hc j hj)⟩) HW.out.size ?_
   intro g6 cap6 w6 ho6 hg6
   simp only [Nat.zero_add, List.nil_append] at ho6 ⊢
   exact ⟨⟨fun h1 h2 h3 h4 => absurd rfl h1, fun _ => ⟨g, (grown_chg (v := .slice (some ⟨g, 0, none⟩) 0 0) hg6).weak (fun y hy => by simpa [rowOf, Value.ownBlock] using hy), HS1.out.1⟩⟩, Ext.grown HW.out hg6 (fun k hk => by have hk2 : g = k := (by simpa using hk); have := HS1.out.2; omega), g6, cap6, rfl, ho6⟩
  ·cases ho
   clear hd
   unfold GivesOp
   go_simp
   exact ⟨gnai (Ext.refl _) (by decide) (by decide), HW.out, rfl⟩
  ·cases ho
   have h4 : vs 4 = _ := hd ⟨4, .data⟩ (by simp) rfl
   rw [h4] at i4
   clear hd
   obtain ⟨m0, m1, m2, m3, m4, m5, m6, mf⟩ := blk7 (HW.out.blk HB611.out)
   unfold GivesOp
   go_simp
   exact ⟨gnai (Ext.refl _) (by decide) (by decide), HW.out, rfl⟩
  ·cases ho
   have h5 : vs 5 = _ := hd ⟨5, .data⟩ (by simp) rfl
   rw [h5] at i5
   clear hd
   have hw6 : IntKind.i64.wrap (lv.x.number + 1) = lv.x.number + 1 := IntWalk.i64_in _ (by omega)
   unfold GivesOp
   go_simp
   try rw [hw6]
   exact ⟨gnai (Ext.refl _) (by decide) (by decide), HW.out, rfl⟩
  ·cases ho
   have h6 : vs 6 = _ := hd ⟨6, .data⟩ (by simp) rfl
   rw [h6] at i6
   clear hd
   unfold GivesOp
   go_simp
   exact ⟨gnai ((Ext.refl W).alloc _) (by decide) (by decide), HW.out.alloc _, W.heap.size, rfl, alloc_new W _⟩
  ·cases ho
   obtain ⟨g, cp, h3, hs3⟩ : ∃ (g : Nat) (cp : Nat), vs 3 = .slice (some ⟨g, 0, none⟩) an cp /\ (W.ownsRow w11.heap.size 3 1 (.slice (some ⟨g, 0, none⟩) an cp) an (AL.flatMap intCells)) := hd ⟨3, .data⟩ (by simp) rfl
   have HS3 := hI hs3
   clear hs3
   rw [h3] at i3
   obtain ⟨y, h7, hs7⟩ : ∃ (y : Nat), vs 7 = .slice (some ⟨y, 0, none⟩) 1 1 /\ (W.heap[y]? = some (.cells #[.int .i64 (lv.x.number + 1)] 3 (0, 0))) := hd ⟨7, .data⟩ (by simp) rfl
   have HS7 := hI hs7
   clear hs7
   rw [h7] at i7
   clear hd
   refine gives_append elemInts _ _ w11.heap.size _ an (AL.flatMap intCells) i3 y 1 1 [Value.int .i64 (lv.x.number + 1)] i7 rfl (by simp [Value.oneCell']) (by omega) (by omega) (by omega) HS3.out (fun j hj => by have h0 : j = 0 := (by simpa using hj); subst h0; rw [blk_cell HS7.out]; rfl) HW.out.size ?_
   intro g7 cap7 w7 ho7 hg7 hl7 hlt7
   exact ⟨⟨fun h1 h2 h3 h4 => absurd rfl h2, fun h => by rcases h with h | h <;> exact absurd h (by decide)⟩, Ext.grown HW.out hg7 (fun k hk => by have hk2 : g = k := (by simpa [Value.ownBlock] using hk); have := (HS3.out.lt g rfl).1; omega), g7, cap7, rfl, int_own (by simp [intCells]) (by rw [List.length_append, <- HAN.out]; rfl) ho7⟩
  ·cases ho
   have h0 : vs 0 = _ := hd ⟨0, .data⟩ (by simp) rfl
   rw [h0] at i0
   obtain ⟨g, cp, h8, hs8⟩ : ∃ (g : Nat) (cp : Nat), vs 8 = .slice (some ⟨g, 0, none⟩) (an + 1) cp /\ (IsIntF W (AL ++ [lv.x.number + 1]) (some ⟨g, 0, none⟩) (an + 1)) := hd ⟨8, .data⟩ (by simp) rfl
   have HS8 := hI hs8
   clear hs8
   rw [h8] at i8
   clear hd
   unfold GivesOp
   go_simp
   refine (sameIntsF_calls (AL ++ [lv.x.number + 1]) (AL ++ [lv.x.number + 1]) _ _ _ _ _ _ W (HA11.out.mono HW.out.sub) HS8.out (by omega)).mono ?_
   rintro r5 w5 ⟨rfl, ⟨m5, rfl⟩⟩
   exact ⟨_, rfl, gnai ((Ext.refl W).drewN _) (by decide) (by decide), HW.out.trans ((Ext.refl W).drewN _), by rw [decide_eq_true rfl]; rfl⟩
  ·cases ho
   have h9 : vs 9 = _ := hd ⟨9, .data⟩ (by simp) rfl
   rw [h9] at i9
   clear hd
   unfold GivesOp
   go_simp
   exact ⟨gnai (Ext.refl _) (by decide) (by decide), HW.out, rfl⟩
  ·cases ho
   clear hd
   unfold GivesOp
   go_simp
   exact ⟨gnai (Ext.refl _) (by decide) (by decide), HW.out, rfl⟩
  ·cases ho
   clear hd
   unfold GivesOp
   go_simp
   exact ⟨gnai ((Ext.refl W).alloc _) (by decide) (by decide), HW.out.alloc _, W.heap.size, rfl, alloc_new W _, HW.out.size⟩
  ·cases ho
   clear hd
   unfold GivesOp
   go_simp
   exact ⟨gnai (Ext.refl _) (by decide) (by decide), HW.out, rfl⟩
  ·cases ho
   obtain ⟨g, h12, hs12⟩ : ∃ (g : Nat), vs 12 = .slice (some ⟨g, 0, none⟩) 0 0 /\ (W.heap[g]? = some (.cells #[] 3 (0, 0)) /\ w11.heap.size <= g) := hd ⟨12, .data⟩ (by simp) rfl
   have HS12 := hI hs12
   clear hs12
   rw [h12] at i12
   have h13 : vs 13 = _ := hd ⟨13, .data⟩ (by simp) rfl
   rw [h13] at i13
   clear hd
   refine gives_append_any elemInts _ _ w11.heap.size g 0 0 [] i12 _ _ _ (YL.flatMap intCells) i13 (by rw [int_flat, <- HYN.out]) (int_ones _) (by omega) (by omega) ⟨rfl, Or.inr ⟨g, 0, #[], rfl, HS12.out.2, HS12.out.1, Nat.le_refl _, by unfold maxLen; omega, rfl, rfl⟩⟩ (fun hp => by obtain ⟨b, off, e, hc⟩ := int_src HY2.out hp; exact ⟨b, off, e, fun j hj => HW.out.cell (hc j hj)⟩) HW.out.size ?_
   intro g6 cap6 w6 ho6 hg6
   simp only [Nat.zero_add, List.nil_append] at ho6 ⊢
   exact ⟨⟨fun h1 h2 h3 h4 => absurd rfl h3, fun _ => ⟨g, (grown_chg (v := .slice (some ⟨g, 0, none⟩) 0 0) hg6).weak (fun y hy => by simpa [rowOf, Value.ownBlock] using hy), HS12.out.1⟩⟩, Ext.grown HW.out hg6 (fun k hk => by have hk2 : g = k := (by simpa using hk); have := HS12.out.2; omega), g6, cap6, rfl, ho6⟩
  ·cases ho
   clear hd
   unfold GivesOp
   go_simp
   exact ⟨gnai (Ext.refl _) (by decide) (by decide), HW.out, rfl⟩
  ·cases ho
   have h15 : vs 15 = _ := hd ⟨15, .data⟩ (by simp) rfl
   rw [h15] at i15
   clear hd
   obtain ⟨m0, m1, m2, m3, m4, m5, m6, mf⟩ := blk7 (HW.out.blk HB611.out)
   unfold GivesOp
   go_simp
   exact ⟨gnai (Ext.refl _) (by decide) (by decide), HW.out, rfl⟩
  ·cases ho
   have h16 : vs 16 = _ := hd ⟨16, .data⟩ (by simp) rfl
   rw [h16] at i16
   clear hd
   have hw17 : IntKind.i64.wrap (lv.x.number + 2) = lv.x.number + 2 := IntWalk.i64_in _ (by omega)
   unfold GivesOp
   go_simp
   try rw [hw17]
   exact ⟨gnai (Ext.refl _) (by decide) (by decide), HW.out, rfl⟩
  ·cases ho
   have h17 : vs 17 = _ := hd ⟨17, .data⟩ (by simp) rfl
   rw [h17] at i17
   clear hd
   unfold GivesOp
   go_simp
   exact ⟨gnai ((Ext.refl W).alloc _) (by decide) (by decide), HW.out.alloc _, W.heap.size, rfl, alloc_new W _⟩
  ·cases ho
   obtain ⟨g, cp, h14, hs14⟩ : ∃ (g : Nat) (cp : Nat), vs 14 = .slice (some ⟨g, 0, none⟩) yn cp /\ (W.ownsRow w11.heap.size 3 1 (.slice (some ⟨g, 0, none⟩) yn cp) yn (YL.flatMap intCells)) := hd ⟨14, .data⟩ (by simp) rfl
   have HS14 := hI hs14
   clear hs14
   rw [h14] at i14
   obtain ⟨y, h18, hs18⟩ : ∃ (y : Nat), vs 18 = .slice (some ⟨y, 0, none⟩) 1 1 /\ (W.heap[y]? = some (.cells #[.int .i64 (lv.x.number + 2)] 3 (0, 0))) := hd ⟨18, .data⟩ (by simp) rfl
   have HS18 := hI hs18
   clear hs18
   rw [h18] at i18
   clear hd
   refine gives_append elemInts _ _ w11.heap.size _ yn (YL.flatMap intCells) i14 y 1 1 [Value.int .i64 (lv.x.number + 2)] i18 rfl (by simp [Value.oneCell']) (by omega) (by omega) (by omega) HS14.out (fun j hj => by have h0 : j = 0 := (by simpa using hj); subst h0; rw [blk_cell HS18.out]; rfl) HW.out.size ?_
   intro g7 cap7 w7 ho7 hg7 hl7 hlt7
   exact ⟨⟨fun h1 h2 h3 h4 => absurd rfl h4, fun h => by rcases h with h | h <;> exact absurd h (by decide)⟩, Ext.grown HW.out hg7 (fun k hk => by have hk2 : g = k := (by simpa [Value.ownBlock] using hk); have := (HS14.out.lt g rfl).1; omega), g7, cap7, rfl, int_own (by simp [intCells]) (by rw [List.length_append, <- HYN.out]; rfl) ho7⟩
  ·cases ho
   have h11 : vs 11 = _ := hd ⟨11, .data⟩ (by simp) rfl
   rw [h11] at i11
   obtain ⟨g, cp, h19, hs19⟩ : ∃ (g : Nat) (cp : Nat), vs 19 = .slice (some ⟨g, 0, none⟩) (yn + 1) cp /\ (IsIntF W (YL ++ [lv.x.number + 2]) (some ⟨g, 0, none⟩) (yn + 1)) := hd ⟨19, .data⟩ (by simp) rfl
   have HS19 := hI hs19
   clear hs19
   rw [h19] at i19
   clear hd
   unfold GivesOp
   go_simp
   refine (sameIntsF_calls (YL ++ [lv.x.number + 2]) (YL ++ [lv.x.number + 2]) _ _ _ _ _ _ W (HY1.out.mono HW.out.sub) HS19.out (by omega)).mono ?_
   rintro r5 w5 ⟨rfl, ⟨m5, rfl⟩⟩
   exact ⟨_, rfl, gnai ((Ext.refl W).drewN _) (by decide) (by decide), HW.out.trans ((Ext.refl W).drewN _), by rw [decide_eq_true rfl]; rfl⟩
  ·cases ho
   have h10 : vs 10 = _ := hd ⟨10, .data⟩ (by simp) rfl
   rw [h10] at i10
   have h20 : vs 20 = _ := hd ⟨20, .data⟩ (by simp) rfl
   rw [h20] at i20
   clear hd
   unfold GivesOp
   go_simp
   exact ⟨gnai (Ext.refl _) (by decide) (by decide), HW.out, rfl⟩
  ·cases ho
   have h21 : vs 21 = _ := hd ⟨21, .data⟩ (by simp) rfl
   rw [h21] at i21
   clear hd
   unfold GivesOp
   go_simp
   exact ⟨gnai (Ext.refl _) (by decide) (by decide), HW.out, rfl⟩
  ·cases ho
   clear hd
   unfold GivesOp
   go_simp
   refine (awake18_calls W).mono ?_
   rintro r5 w5 ⟨rfl, hx5⟩
   exact ⟨_, rfl, gnai hx5 (by decide) (by decide), HW.out.trans hx5, rfl⟩
  ·cases ho
   have h22 : vs 22 = _ := hd ⟨22, .data⟩ (by simp) rfl
   rw [h22] at i22
   have h23 : vs 23 = _ := hd ⟨23, .data⟩ (by simp) rfl
   rw [h23] at i23
   clear hd
   unfold GivesOp
   go_simp
   exact ⟨gnai (Ext.refl _) (by decide) (by decide), HW.out, rfl⟩
  cases ho
  have h24 : vs 24 = _ := hd ⟨24, .data⟩ (by simp) rfl
  rw [h24] at i24
  clear hd
  unfold GivesOp
  go_simp
  exact ⟨gnai (Ext.refl _) (by decide) (by decide), HW.out, rfl⟩
 intro L vs W hLm hW hR
 rw [if_pos (by decide +kernel)]
 have h25 : vs 25 = .bool true := hR 25 (by simp) (by omega)
 simp only [acts, dstAt, List.range, List.range.loop, List.foldl_cons, List.foldl_nil, h25]
 go_simp
 have hW2 : Ext w11 W := hW
 clear hR hW hLm h25
 have HW11 := hI hW2
 clear hW2
 go_wp2_with fail
 go_ret
 exact givesE_bool rfl (HX1.out.trans (HX110.out.trans (HW10.out.trans HW11.out)))
end Go.Proofs.Ytpkljcgihobaiaa
