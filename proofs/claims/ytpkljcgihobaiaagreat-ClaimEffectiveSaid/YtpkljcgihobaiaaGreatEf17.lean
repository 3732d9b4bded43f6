/-
  Texts of the claim, joined: Backw, VoidP, EffP, Eff1, RangeB, Eff.
-/
import Derived.Test.YtpkljcgihobaiaaGreatEf16
import Derived.RangeFuncNested
import Derived.RangeFuncBound
import Derived.RangeFuncCalls
import Derived.RangeFuncLeaves
import Derived.RangeFuncBox
import Derived.Shelf.Abstract
import Derived.Shelf.RegionOpen
import Derived.OwnWalkIn
import Derived.TacticsInMore
import Derived.LoopNIn
import Derived.LoopIn
import Derived.Maps.OwnIn
namespace Go.Proofs.YtpkljcgihobaiaaGreat
set_option maxRecDepth 100000
set_option maxHeartbeats 32000000
open Go.RowKit Go.Shelf
attribute [local go_sem] Oper.semAt_some
def goodV (v : EvV) : Prop := (Lit.int .i64 v.x.number).wf = true /\ (Lit.int .i64 v.x.target).wf = true
abbrev EvW := { x : Nat × EvV // goodV x.2 }
def encW (x : EvW) : Array Value := #[.int .i64 (x.1.1 : Int), x.1.2.val]
def uptoL {α : Type} (f : Nat -> α) (k : Nat) : List α := (List.range k).map f
theorem uptoL_succ {α : Type} (f : Nat -> α) (k : Nat) : uptoL f (k + 1) = uptoL f k ++ [f k] := by simp [uptoL, List.range_succ]
theorem uptoL_length {α : Type} (f : Nat -> α) (k : Nat) : (uptoL f k).length = k := by simp [uptoL]
def evV0 : EvV := ⟨ev0, none, 0, 0⟩
theorem good0 : goodV evV0 := ⟨by decide, by decide⟩
theorem good_at {vs : List EvV} (hg : ∀ v ∈ vs, goodV v) (i : Nat) : goodV (vs.getD i evV0) := by
 rw [List.getD_eq_getElem?_getD]
 by_cases h : i < vs.length
 ·rw [List.getElem?_eq_getElem h]; exact hg _ (List.getElem_mem h)
 rw [List.getElem?_eq_none (by omega)]; exact good0
def bwd (vs : List EvV) (hg : ∀ v ∈ vs, goodV v) (j : Nat) : EvW := ⟨(vs.length - 1 - j, vs.getD (vs.length - 1 - j) evV0), good_at hg _⟩
def KpB (n₀ Bs : Nat) (A B : World) : Prop := Below n₀ A B /\ B.heap[Bs]? = A.heap[Bs]?
theorem KpB.t {n₀ Bs : Nat} {A B C : World} (h : KpB n₀ Bs A B) (k : KpB n₀ Bs B C) : KpB n₀ Bs A C := ⟨h.1.trans k.1, k.2.trans h.2⟩
theorem KpB.refl (n₀ Bs : Nat) (A : World) : KpB n₀ Bs A A := ⟨Below.refl _ _, rfl⟩
theorem KpB.b {n₀ Bs : Nat} {w : World} (hn : n₀ <= w.heap.size) (hB : Bs < w.heap.size) (W : World) (l : Nat) (o o' : Obj) (hl : w.heap.size <= l) (h : W.heap[l]? = some o) (h1 : o.isCells = false) (h2 : o.isWalk = false) : KpB n₀ Bs W (W.putObj l o') :=
 ⟨belowK_b hn W l o o' hl h h1 h2, World.putObj_heap_other (by omega)⟩
def EvRows (n₀ : Nat) (W : World) (vs : List EvV) (a : OA) : Prop := ∀ i (h : i < vs.length), ∃ b off, a = some ⟨b, off, none⟩ /\ b < n₀ /\ ∀ j (hj : j < vs[i].cells.length), W.cell? ⟨b, off + i * 7 + j, none⟩ = some vs[i].cells[j]
theorem EvRows.below {n₀ : Nat} {A B : World} {vs : List EvV} {a : OA} (h : EvRows n₀ A vs a) (hb : Below n₀ A B) : EvRows n₀ B vs a := fun i hi => by
 obtain ⟨b, off, e, hlt, hc⟩ := h i hi
 exact ⟨b, off, e, hlt, fun j hj => (hb.cell (p := ⟨b, off + i * 7 + j, none⟩) hlt).trans (hc j hj)⟩
theorem EvRows.seven {n₀ : Nat} {W : World} {vs : List EvV} {a : OA} (h : EvRows n₀ W vs a) {i : Nat} (hi : i < vs.length) : ∃ b off, a = some ⟨b, off, none⟩ /\ b < n₀ /\ W.cell? ⟨b, off + i * 7, none⟩ = some (.int .i64 vs[i].x.number) /\ W.cell? ⟨b, off + i * 7 + 1, none⟩ = some (.int .i64 vs[i].x.known) /\ W.cell? ⟨b, off + i * 7 + 2, none⟩ = some (.int .i64 vs[i].x.kind) /\
  W.cell? ⟨b, off + i * 7 + 3, none⟩ = some (.slice vs[i].a vs[i].n vs[i].c) /\ W.cell? ⟨b, off + i * 7 + 4, none⟩ = some (.int .i64 vs[i].x.cur) /\ W.cell? ⟨b, off + i * 7 + 5, none⟩ = some (.int .i64 vs[i].x.amount) /\ W.cell? ⟨b, off + i * 7 + 6, none⟩ = some (.int .i64 vs[i].x.target) := by
 obtain ⟨b, off, e, hlt, hc⟩ := h i hi
 exact ⟨b, off, e, hlt, hc 0 (by simp [EvV.len]), hc 1 (by simp [EvV.len]), hc 2 (by simp [EvV.len]), hc 3 (by simp [EvV.len]), hc 4 (by simp [EvV.len]), hc 5 (by simp [EvV.len]), hc 6 (by simp [EvV.len])⟩
theorem back_calls (a : OA) (n c : Nat) (w : World) :
  Calls Tryz.prog 89 #[.slice a n c] w fun e w' => e = .returned (.func (.func 132) #[] #[.pointer (some ⟨w.heap.size, 0, none⟩)]) /\ w' = w.alloc (.cells #[.slice a n c] 25) := by
 go_enter Tryz.func89, Tryz.ntmps89
 go_wp2_with fail
 go_ret
 exact ⟨rfl, rfl⟩
theorem back1_in (F : Fence) (n : Nat) (h7 : F.fn 132) (hro : F.round = none) (hn : 1 <= n) (l Bs n₀ : Nat) (a : OA) (cap N : Nat) (vs : List EvV) (hN : N = vs.length) (hN2 : N <= 1000000000000000) (hg : ∀ v ∈ vs, goodV v) (J Jx : List EvW -> World -> Prop)
  (hY : ∀ pre x W, J pre W -> pre.length < N -> YieldAt F (n - 1) Tryz.prog l (encW x) W fun e W' =>
   (e = .returned (.bool true) /\ J (pre ++ [x]) W' /\ KpB n₀ Bs W W') \/ (e = .returned (.bool false) /\ Jx (pre ++ [x]) W'))
  (W : World) (hBs : W.heap[Bs]? = some (.cells #[.slice a N cap] 25 (0, 0))) (hc : EvRows n₀ W vs a) (h0 : J [] W) :
  CallsIn F n Tryz.prog 132 #[.func (.yield l) #[] #[], .pointer (some ⟨Bs, 0, none⟩)] W fun e W' => (∃ v, e = .returned v) /\
   ((∃ ys, ys = uptoL (bwd vs hg) N /\ J ys W') \/ (∃ pre, True /\ Jx pre W')) := by
 have HBS := hI hBs
 have HC := hI hc
 have HN := hI hN
 obtain ⟨b0, bf⟩ := blk1 hBs
 clear hBs hc hN
 refine callsIn_of_wp Tryz.func132 rfl h7 ?_ hro
 simp only [Tryz.ntmps132, List.size_toArray, List.length_cons, List.length_nil, Nat.reduceAdd, Nat.reduceSub, Array.replicate_succ, Array.replicate_zero, List.push_toArray, List.append_toArray, List.nil_append, List.cons_append]
 gi_wp2
 gi_loopw [3] (fun i wr => ∃ m : Nat, m <= N /\ i = .int .i64 ((m : Int) - 1) /\ J (uptoL (bwd vs hg) (N - m)) wr /\ KpB n₀ Bs W wr)
  (fun i _ => (intOf i + 1).toNat)
 case atStart => exact ⟨N, Nat.le_refl _, rfl, by rw [Nat.sub_self]; exact h0, KpB.refl _ _ _⟩
 case round =>
  obtain ⟨m, hm, rfl, hJs, hnx⟩ := hrel
  have HNX := hI hnx
  obtain ⟨d0, df⟩ := blk1 (hnx.2.trans HBS.out)
  clear hnx b0 bf
  cases m with
  | zero =>
   rw [Nat.sub_zero] at hJs
   have HJ := hI hJs
   clear hJs
   gi_wp2
   go_end0
   exact ⟨⟨_, rfl⟩, .inl ⟨_, rfl, HJ.out⟩⟩
  | succ m =>
   have hms : m < vs.length := by have := HN.out; omega
   obtain ⟨b, off, rfl, hb, c0, c1, c2, c3, c4, c5, c6⟩ := (HC.out.below HNX.out.1).seven hms
   have e1 : bwd vs hg (N - (m + 1)) = ⟨(m, vs[m]), hg _ (List.getElem_mem hms)⟩ := by
    have e2 : vs.length - 1 - (N - (m + 1)) = m := by have := HN.out; omega
    apply Subtype.ext
    show (vs.length - 1 - (N - (m + 1)), vs.getD (vs.length - 1 - (N - (m + 1))) evV0) = (m, vs[m])
    rw [e2, List.getD_eq_getElem?_getD, List.getElem?_eq_getElem hms]; rfl
   obtain ⟨fn, tmps, assign, body, hy, hR⟩ := hY _ (bwd vs hg (N - (m + 1))) wr hJs (by rw [uptoL_length]; omega)
   have HR := hI hR
   rw [e1] at hy
   unfold encW EvV.val at hy
   dsimp only at hy
   have e3 : (((m + 1 : Nat) : Int) - 1) = (m : Int) := by omega
   rw [e3]
   have t1 : decide ((0 : Int) <= (m : Int)) = true := decide_eq_true (by omega)
   clear hJs hR e1 e3
   gi_wp2
   refine HR.out.mono ?_
   rintro e W3 (⟨rfl, hJ3, hk3⟩ | ⟨rfl, hJx3⟩)
   ·have HJ3 := hI hJ3
    have HK3 := hI hk3
    clear hJ3 hk3
    gi_wp2
    go_roundw
    case rel =>
     refine ⟨m, by omega, by simp, ?_, HNX.out.t HK3.out⟩
     have e4 : N - m = (N - (m + 1)) + 1 := by omega
     rw [e4, uptoL_succ]
     exact HJ3.out
    case measure => simp [intOf]
   have HJ3 := hI hJx3
   clear hJx3
   gi_wp2
   refine bodyPost_ret (results_none rfl _ _ _) rfl ?_
   exact ⟨⟨_, rfl⟩, .inr ⟨_, trivial, HJ3.out⟩⟩
theorem back_stops (F : Fence) (n : Nat) (h7 : F.fn 132) (hro : F.round = none) (hn : 1 <= n) (Bs n₀ : Nat) (a : OA) (cap N : Nat) (vs : List EvV) (hN : N = vs.length) (hN2 : N <= 1000000000000000) (hg : ∀ v ∈ vs, goodV v) (w : World)
  (hn₀ : n₀ <= w.heap.size) (hBs : w.heap[Bs]? = some (.cells #[.slice a N cap] 25 (0, 0))) (hc : EvRows n₀ w vs a) :
  SeqStopsK F n Tryz.prog 132 #[.pointer (some ⟨Bs, 0, none⟩)] encW (KpB n₀ Bs) (fun ys => ys = uptoL (bwd vs hg) N) (fun _ => True) N w := fun l J Jx W hW _ _ hY h0 =>
 back1_in F n h7 hro hn l Bs n₀ a cap N vs hN hN2 hg J Jx hY W ((hW.block Bs (blk_lt hBs)).trans hBs) (hc.below (hW.mono hn₀)) h0
theorem any_mem {l : ZI} {x : Int} : l.any (· == x) = true ↔ x ∈ l := by simp
theorem effGo_extra (hour : Int) : (l : List Ev) -> (v v' : ZI) -> (∀ x ∈ l, (x.number ∈ v ↔ x.number ∈ v')) -> (∀ y ∈ l, ∀ t, ∀ u ∈ l, (u.number ∈ t :: v ↔ u.number ∈ t :: v')) -> effGo hour v l = effGo hour v' l
 | [], _, _, _, _ => rfl
 | x :: r, v, v', h, h2 => by
  have hx := h x (by simp)
  unfold effGo
  have e : (hour < x.known \/ v.any (· == x.number) = true) ↔ (hour < x.known \/ v'.any (· == x.number) = true) := by rw [any_mem, any_mem, hx]
  by_cases hc : hour < x.known \/ v.any (· == x.number) = true
  ·rw [if_pos hc, if_pos (e.1 hc)]
   exact effGo_extra hour r v v' (fun y hy => h y (by simp [hy])) fun y hy t u hu => h2 y (by simp [hy]) t u (by simp [hu])
  rw [if_neg hc, if_neg (fun q => hc (e.2 q))]
  congr 1
  by_cases hv : isVoid x = true
  ·rw [if_pos hv, if_pos hv]
   exact effGo_extra hour r _ _ (fun y hy => by rw [List.mem_cons, List.mem_cons, h y (by simp [hy])]) fun y hy t u hu => by
    simp only [List.mem_cons]
    rw [h u (by simp [hu])]
  rw [if_neg hv, if_neg hv]
  exact effGo_extra hour r v v' (fun y hy => h y (by simp [hy])) fun y hy t u hu => by
   simp only [List.mem_cons]
   rw [h u (by simp [hu])]
theorem soundEvs_snoc : (b : ZI) -> (l : List Ev) -> (x : Ev) -> soundEvs b (l ++ [x]) = (soundEvs b l && !((isVoid x && !(decide (x.target ∈ b) || l.any (fun y => y.number == x.target))) || (decide (x.number ∈ b) || l.any (fun y => y.number == x.number))))
 | b, [], x => by
  have h1 : b.any (· == x.target) = decide (x.target ∈ b) := by rw [Bool.eq_iff_iff]; simp
  have h2 : b.any (· == x.number) = decide (x.number ∈ b) := by rw [Bool.eq_iff_iff]; simp
  simp only [List.nil_append, soundEvs, h1, h2, List.any_nil, Bool.or_false, Bool.and_true, Bool.true_and]
 | b, y :: l, x => by
  simp only [List.cons_append, soundEvs, soundEvs_snoc (y.number :: b) l x, List.any_cons, List.mem_cons, Bool.and_assoc]
  congr 3
  have e : ∀ t : Int, (decide (t = y.number \/ t ∈ b) || l.any fun z => z.number == t) = (decide (t ∈ b) || ((y.number == t) || l.any fun z => z.number == t)) := by
   intro t
   rw [Bool.eq_iff_iff]
   simp only [Bool.or_eq_true, decide_eq_true_eq, beq_iff_eq]
   constructor
   ·rintro ((h | h) | h)
    ·exact Or.inr (Or.inl h.symm)
    ·exact Or.inl h
    exact Or.inr (Or.inr h)
   rintro (h | h | h)
   ·exact Or.inl (Or.inr h)
   ·exact Or.inl (Or.inl h.symm)
   exact Or.inr h
  rw [e, e]
def effStep (hour : Int) (s : ZI × List EvV) (x : EvV) : ZI × List EvV :=
 if hour < x.x.known \/ s.1.any (· == x.x.number) = true then s else (if isVoid x.x then x.x.target :: s.1 else s.1, s.2 ++ [x])
def effFold (hour : Int) (l : List EvV) : ZI × List EvV := l.foldl (effStep hour) ([], [])
theorem effFold_snoc (hour : Int) (l : List EvV) (x : EvV) : effFold hour (l ++ [x]) = effStep hour (effFold hour l) x := by simp [effFold]
theorem effFold_go (hour : Int) : (l : List EvV) -> (s : ZI × List EvV) -> ((l.foldl (effStep hour) s).2).map (·.x) = s.2.map (·.x) ++ effGo hour s.1 (l.map (·.x))
 | [], s => by simp [effGo]
 | x :: r, s => by
  rw [List.foldl_cons, effFold_go hour r, List.map_cons, effGo]
  by_cases h : hour < x.x.known \/ s.1.any (· == x.x.number) = true
  ·rw [effStep, if_pos h, if_pos h]
  rw [effStep, if_neg h, if_neg h]
  simp
theorem effFold_len (hour : Int) (l : List EvV) : (effFold hour l).2.length <= l.length /\ (effFold hour l).1.length <= l.length := by
 have : ∀ (l : List EvV) (s : ZI × List EvV), ((l.foldl (effStep hour) s).2).length <= s.2.length + l.length /\ ((l.foldl (effStep hour) s).1).length <= s.1.length + l.length := by
  intro l
  induction l with
  | nil => intro s; simp
  | cons x r ih =>
   intro s
   rw [List.foldl_cons]
   have h := ih (effStep hour s x)
   have h2 : (effStep hour s x).2.length <= s.2.length + 1 /\ (effStep hour s x).1.length <= s.1.length + 1 := by
    unfold effStep
    by_cases h : hour < x.x.known \/ s.1.any (· == x.x.number) = true
    ·rw [if_pos h]; omega
    rw [if_neg h]
    by_cases hv : isVoid x.x = true
    ·rw [if_pos hv]; simp
    rw [if_neg hv]; simp
   simp only [List.length_cons]
   omega
 simpa [effFold] using this l ([], [])
theorem effFold_mem (hour : Int) (l : List EvV) : ∀ v ∈ (effFold hour l).2, v ∈ l := by
 have : ∀ (l : List EvV) (s : ZI × List EvV), ∀ v ∈ (l.foldl (effStep hour) s).2, v ∈ s.2 \/ v ∈ l := by
  intro l
  induction l with
  | nil => intro s v h; exact Or.inl h
  | cons x r ih =>
   intro s v h
   rw [List.foldl_cons] at h
   rcases ih _ v h with h | h
   ·unfold effStep at h
    by_cases hc : hour < x.x.known \/ s.1.any (· == x.x.number) = true
    ·rw [if_pos hc] at h; exact Or.inl h
    rw [if_neg hc] at h
    rcases List.mem_append.1 h with h | h
    ·exact Or.inl h
    exact Or.inr (by simp at h; simp [h])
   exact Or.inr (by simp [h])
 intro v hv
 rcases this l ([], []) v hv with h | h
 ·simp at h
 exact h
theorem effL_fold {l : List EvV} {hour : Int} (h : soundEvs [] (l.map (·.x)) = true) : effL (l.map (·.x)) hour = ((effFold hour l.reverse).2.reverse).map (·.x) := by
 unfold effL
 rw [if_pos h, List.map_reverse]
 have := effFold_go hour l.reverse ([], [])
 simp only [List.map_nil, List.nil_append, List.map_reverse] at this
 rw [show effFold hour l.reverse = l.reverse.foldl (effStep hour) ([], []) from rfl, this]
theorem soundEvs_pre : (b : ZI) -> (p q : List Ev) -> soundEvs b (p ++ q) = true -> soundEvs b p = true
 | _, [], _, _ => rfl
 | b, x :: r, q, h => by
  simp only [List.cons_append, soundEvs, Bool.and_eq_true] at h ⊢
  exact ⟨h.1, soundEvs_pre _ r q h.2⟩
def okEv (l : List Ev) (x : Ev) : Bool := !((isVoid x && !(l.any (fun y => y.number == x.target))) || l.any (fun y => y.number == x.number))
theorem soundEvs_step {l : List Ev} {k : Nat} (hk : k < l.length) (h : soundEvs [] (l.take k) = true) : soundEvs [] (l.take (k + 1)) = okEv (l.take k) l[k] := by
 rw [List.take_succ_eq_append_getElem hk, soundEvs_snoc, h]
 simp [okEv]
theorem soundEvs_bad {l : List Ev} {k : Nat} (h : soundEvs [] (l.take k) = false) : soundEvs [] l = false := by
 cases hs : soundEvs [] l with
 | false => rfl
 | true =>
  rw [<- List.take_append_drop k l] at hs
  rw [soundEvs_pre _ _ _ hs] at h
  cases h
open Go.RowKit Go.Maps Go.Shelf
def numF (l : ZI) : Lit -> Option Value
 | .int .i64 n => if l.any (· == n) then some (.bool true) else none
 | _ => none
theorem numF_nil (x : Lit) : numF [] x = none := by unfold numF; split <;> simp
theorem numF_get (l : ZI) (n : Int) : (numF l (.int .i64 n)).getD (.bool false) = .bool (l.any (· == n)) := by
 show (if l.any (· == n) = true then some (Value.bool true) else none).getD (.bool false) = _
 cases l.any (· == n) <;> rfl
theorem numF_put (l : ZI) (n : Int) (x : Lit) : setF (numF l) (.int .i64 n) (some (.bool true)) x = numF (n :: l) x := by
 by_cases h : x = .int .i64 n
 ·subst h
  rw [setF_same]
  simp [numF]
 rw [setF_other _ _ h]
 unfold numF
 split
 ·rename_i k
  have hk : (n == k) = false := by simp; intro e; exact h (by rw [e])
  simp only [List.any_cons, hk, Bool.false_or]
 rfl
theorem uMapIB : Tryz.prog.underlying 160 = some (.map 3 4) := by kernel_rfl
theorem uIntK : Tryz.prog.underlying 3 = some (.int .i64) := by kernel_rfl
theorem keyedI : Keyed Tryz.prog 3 := int_keyed uIntK
theorem zeroB (w : World) : (zeroValue 4).run Tryz.prog w = .ok (.bool false) w := by kernel_rfl
theorem keyI {i : Int} (h : (Lit.int .i64 i).wf = true) : keyOf Tryz.prog 3 (.int .i64 i) = some (.int .i64 i) := keyOf_int_mk uIntK h
theorem MapAt.grown {w w' : World} {k : TypeId} {b n : Nat} {f : Lit -> Option Value} {row : Option Nat} (h : MapAt w k b n f) (hg : w.grownBy w' row) (hn : some b ≠ row) : MapAt w' k b n f := by
 obtain ⟨D, h1, h2⟩ := h
 exact ⟨D, h1.kept hg hn, h2⟩
theorem cells_new_at (W : World) (cs : List Value) (t : TypeId) {B : Nat} (hB : B = W.heap.size) (j : Nat) (u : Value) (h : cs[j]? = some u) : (W.alloc (.cells cs.toArray t)).cell? ((⟨B, 0, none⟩ : Addr).add j) = some u := by
 have e : (⟨B, 0, none⟩ : Addr).add j = ⟨B, j, none⟩ := by unfold Addr.add; split <;> simp_all
 rw [e, hB, blk_cell (alloc_new W (.cells cs.toArray t))]
 simpa using h
def zEv : Value := .agg #[.int .i64 0, .int .i64 0, .int .i64 0, .slice none 0 0, .int .i64 0, .int .i64 0, .int .i64 0]
theorem elemEv : ElemT 25 30 zEv 7 72 := ⟨by kernel_rfl, by kernel_rfl, rfl, by omega⟩
theorem MapAt.not_row {W : World} {k e : TypeId} {b n base size q : Nat} {f : Lit -> Option Value} {v : Value} {xs : List Value} (h : MapAt W k b n f) (hr : W.ownsRow base e size v q xs) : some b ≠ v.ownBlock := by
 intro ee
 obtain ⟨D, ⟨es, clock, hb, _⟩, _⟩ := h
 rcases hr.2 with ⟨rfl, _⟩ | ⟨g, cap, cur, rfl, _, hg, _⟩
 ·cases ee
 have e2 : b = g := by simpa [Value.ownBlock] using ee
 subst e2
 rw [hb] at hg
 cases hg
section
variable {F : Fence} {nF : Nat} (w : World) {ops : Array Oper} {rest : List Oper} {o : Oper} {a : Act} {Q : Exit -> Act -> World -> Prop}
theorem wpList_map_get2 (hw : Region.wanted o (yielded ops a.tmps) = true) (m x : Operand) (t : TypeId) (hop : o.op = Op.lookup t m x false) (k e : TypeId) (K : Keyed Tryz.prog k) (ht : Tryz.prog.underlying t = some (.map k e)) {z : Value} (hz : (zeroValue e).run Tryz.prog w = .ok z w) (b n : Nat) (f : Lit -> Option Value)
  (hm : a.eval m = .map (some b)) (hmap : MapAt w k b n f) (key : Value) (kl : Lit) (hx : a.eval x = key) (hkey : keyOf Tryz.prog k key = some kl) (hkl : WideAt.IsKeyLit kl)
  (hK : wpList Tryz.prog ops Q rest (a.put o.dst ((f kl).getD z)) w) : wpList Tryz.prog ops Q (o :: rest) a w := by
 obtain ⟨D, hown, hf⟩ := hmap
 refine wpList_step fun K' hK' => ?_
 rw [if_pos hw]
 obtain ⟨v, ps, hrun, hv⟩ := hown.lookup K ht hz (zd := .held z) (zp := []) rfl hkey
 have e1 : DataW.held v = D.atKey kl (.held z) := by
  simp only [heldE, Option.some.injEq, Prod.mk.injEq] at hv
  exact hv.1
 rw [<- hf.at hkl e1] at hK
 unfold Oper.wp
 simp [execOp, hop, hm, hx, hrun, Result.andThen]
 exact hK' _ _ hK
theorem wpListIn_map_get2 (hw : Region.wanted o (yielded ops a.tmps) = true) (m x : Operand) (t : TypeId) (hop : o.op = Op.lookup t m x false) (k e : TypeId) (K : Keyed Tryz.prog k) (ht : Tryz.prog.underlying t = some (.map k e)) {z : Value} (hz : (zeroValue e).run Tryz.prog w = .ok z w) (b n : Nat) (f : Lit -> Option Value)
  (hm : a.eval m = .map (some b)) (hmap : MapAt w k b n f) (key : Value) (kl : Lit) (hx : a.eval x = key) (hkey : keyOf Tryz.prog k key = some kl) (hkl : WideAt.IsKeyLit kl)
  (hK : wpListIn F nF Tryz.prog ops Q rest (a.put o.dst ((f kl).getD z)) w) : wpListIn F nF Tryz.prog ops Q (o :: rest) a w := by
 obtain ⟨D, hown, hf⟩ := hmap
 refine wpListIn_step fun K' hK' => ?_
 rw [if_pos hw]
 obtain ⟨v, ps, hrun, hv⟩ := hown.lookup K ht hz (zd := .held z) (zp := []) rfl hkey
 have e1 : DataW.held v = D.atKey kl (.held z) := by
  simp only [heldE, Option.some.injEq, Prod.mk.injEq] at hv
  exact hv.1
 rw [<- hf.at hkl e1] at hK
 unfold Oper.wpIn
 refine ⟨by simp [Oper.about, hop], ?_⟩
 rw [Oper.semAt_plain F _ _ (by rw [hop]; intro c hc'; cases hc')]
 simp [execOp, hop, hm, hx, hrun, Result.andThen]
 exact hK' _ _ hK
theorem wpListIn_map_put (hg : o.guard = none) (m x v : Operand) (t : TypeId) (hop : o.op = Op.mapUpdate t m x v) (k e : TypeId) (K : Keyed Tryz.prog k) (ht : Tryz.prog.underlying t = some (.map k e)) (b n : Nat) (f : Lit -> Option Value)
  (hm : a.eval m = .map (some b)) (hmap : MapAt w k b n f) (hn : n < maxLen) (key val : Value) (kl : Lit) (hx : a.eval x = key) (hv : a.eval v = val) (hkey : keyOf Tryz.prog k key = some kl) (hkl : WideAt.IsKeyLit kl)
  (hK : ∀ w', MapAt w' k b (n + 1) (setF f kl (some val)) -> w.grownBy w' (some b) -> wpListIn F nF Tryz.prog ops Q rest (a.put o.dst undef) w') : wpListIn F nF Tryz.prog ops Q (o :: rest) a w := by
 obtain ⟨D, hown, hf⟩ := hmap
 refine wpListIn_mapUpdate_own w hg m x v t hop k e K ht heldE b n D hm hown hn key val kl hx hv hkey (.held val) [] rfl fun w' h1 h2 => ?_
 exact hK w' ⟨_, h1, hf.put hown.isMap hkl val⟩ h2
end
def actB {α : Type} (ps : Array Tmp) (encs : α -> Array Value) (tmps : Array Value) (slot : Nat) (x : α) (Bx : Nat) : Act :=
 {tmps := (((ps.zip (encs x)).foldl (fun t (p, v) => t.setIfInBounds p v) tmps).setIfInBounds slot (.pointer (some ⟨Bx, 0, none⟩))), defers := [] }
theorem wpIn_rangeFunc_box {F : Fence} {n : Nat} {P : Program} {α : Type} {g : Operand} {ps : Array Tmp} {assign body : Code} {Q : Exit -> Act -> World -> Prop} {a : Act} {w : World} (slot : Nat) (T : TypeId) (bx : α -> Array Value)
  (hro : F.round = none) (h1 : 1 <= n) {gf : Nat} {lb : Array Value} (hg : a.eval g = .func (.func gf) #[] lb) (hFg : F.fn gf) (eg : ∀ args w, (callFunc gf args).run P w = .ok (.enter gf args) w)
  {encs : α -> Array Value} {Kp : World -> World -> Prop} {S Sp : List α -> Prop} {N : Nat} {w0 : World} (hseq : SeqStopsK F (n - 1) P gf lb encs Kp S Sp N w0)
  (hKt : ∀ {A B C : World}, Kp A B -> Kp B C -> Kp A C) (hKb : ∀ (W : World) (l : Nat) (o o' : Obj), w.heap.size <= l -> W.heap[l]? = some o -> o.isCells = false -> o.isWalk = false -> Kp W (W.putObj l o')) (hb0 : Below w0.heap.size w0 w) (hps : ∀ x, (encs x).size = ps.size)
  (I : List α -> World -> Prop) (hI : OwnFrom w.heap.size I) (h0 : I [] w)
  (hassign : ∀ (l : Nat) (pre : List α) (x : α) (W : World) (K : Act -> World -> Prop), I pre W -> (∀ Bx W', KeepsFrom w.heap.size W W' -> Kp W W' -> I pre W' -> w.heap.size <= Bx -> W'.heap[Bx]? = some (.cells (bx x) T (0, 0)) -> K (actB ps encs a.tmps slot x Bx) W') ->
   assign.wpIn (F.inRound l) (n - 1 - 1) P (Exit.then K (fun _ _ _ => False)) { tmps := (ps.zip (encs x)).foldl (fun t (p, v) => t.setIfInBounds p v) a.tmps, defers := [] } W)
  (hbody : ∀ (l : Nat) (pre : List α) (x : α) (Bx : Nat) (W : World), I pre W -> w.heap.size <= Bx -> W.heap[Bx]? = some (.cells (bx x) T (0, 0)) -> pre.length < N -> body.wpIn (F.inRound l) (n - 1 - 1) P (ownPostG w.heap.size Kp I (fun _ _ _ => False) (pre ++ [x]) W) (actB ps encs a.tmps slot x Bx) W)
  (hdone : ∀ (D : Nat) (xs : List α) (W : World), w.heap.size <= D -> S xs -> I xs W -> W.heap[D]? = some (.deferred (some [])) -> Q .normal { a with defers := { target := .collected D, args := #[] } :: a.defers } W) :
  (Code.rangeFunc g ps assign body).wpIn F n P Q a w := by
 refine wpIn_rangeFunc_ownH hro h1 hg hFg eg hseq hKt hKb hb0 hps I (fun _ _ _ => False) hI (fun _ _ _ _ _ hs _ _ => hs) h0
  (fun x a' W => ∃ Bx, w.heap.size <= Bx /\ W.heap[Bx]? = some (.cells (bx x) T (0, 0)) /\ a' = actB ps encs a.tmps slot x Bx) ?_ ?_ ?_ hdone ?_
 ·rintro x a' _ X Y row ⟨Bx, e1, e2, e3⟩ hgr hr
  refine ⟨Bx, e1, (hgr.block Bx (Array.getElem?_eq_some_iff.1 e2).1 (fun e => ?_)).trans e2, e3⟩
  obtain ⟨_, o, ho, hc⟩ := hr Bx e.symm
  rw [e2] at ho
  cases ho
  cases hc
 ·intro l pre x W K hi hK
  exact hassign l pre x W K hi fun Bx W' h1 h2 h3 h4 h5 => hK _ _ h1 h2 h3 ⟨Bx, h4, h5, rfl⟩
 ·rintro l pre x a' W _ _ hi ⟨Bx, e1, e2, rfl⟩ hlt
  exact hbody l pre x Bx W hi e1 e2 hlt
 rintro D c pre W _ _ h _
 exact h.elim
attribute [local go_sem] Oper.semAt_some
def ClmArg (c : Clm) (a : OA) (n cap : Nat) : Value := .agg #[.int .i64 c.id, .int .i64 c.policy, .int .i64 c.risk, .int .i64 c.hour, .int .i64 c.peril, .int .i64 c.area, .slice a n cap]
def ClmCells (c : Clm) (a : OA) (n cap : Nat) : Array Value := #[.int .i64 c.id, .int .i64 c.policy, .int .i64 c.risk, .int .i64 c.hour, .int .i64 c.peril, .int .i64 c.area, .slice a n cap]
def fitEv (x : Ev) : Prop := (Lit.int .i64 x.number).wf = true /\ (Lit.int .i64 x.target).wf = true
theorem rows_seven {w : World} {vs : List EvV} {a : OA} {n cap : Nat} (h : IsRows w 7 EvV.cells vs a n cap) {k : Nat} (hk : k < vs.length) : ∃ b off, a = some ⟨b, off, none⟩ /\ w.cell? ⟨b, off + k * 7, none⟩ = some (.int .i64 vs[k].x.number) /\ w.cell? ⟨b, off + k * 7 + 1, none⟩ = some (.int .i64 vs[k].x.known) /\ w.cell? ⟨b, off + k * 7 + 2, none⟩ = some (.int .i64 vs[k].x.kind) /\
  w.cell? ⟨b, off + k * 7 + 3, none⟩ = some (.slice vs[k].a vs[k].n vs[k].c) /\ w.cell? ⟨b, off + k * 7 + 4, none⟩ = some (.int .i64 vs[k].x.cur) /\ w.cell? ⟨b, off + k * 7 + 5, none⟩ = some (.int .i64 vs[k].x.amount) /\ w.cell? ⟨b, off + k * 7 + 6, none⟩ = some (.int .i64 vs[k].x.target) := by
 obtain ⟨b, off, e, hc⟩ := h.2.2.2 k hk
 exact ⟨b, off, e, hc 0 (by simp [EvV.len]), hc 1 (by simp [EvV.len]), hc 2 (by simp [EvV.len]), hc 3 (by simp [EvV.len]), hc 4 (by simp [EvV.len]), hc 5 (by simp [EvV.len]), hc 6 (by simp [EvV.len])⟩
def EffQ (c : Clm) (hour : Int) (w : World) (e : Ending) (w' : World) : Prop := ∃ ra rn rc, e = .returned (.slice ra rn rc) /\ IsEvs w' (effL c.events hour) ra rn rc /\ Ext w w'
theorem effL_bad {l : List Ev} {hour : Int} (h : soundEvs [] l = false) : effL l hour = [] := by unfold effL; rw [if_neg (by simp [h])]
def EffA (l : List Ev) (n b0 b1 b2 : Nat) (cs : Array Value) (hour : Int) (w : World) (i : Value) (wr : World) : Prop :=
 ∃ (k : Nat) (ns : ZI), i = .int .i64 k /\ k <= n /\ soundEvs [] (l.take k) = true /\ (∀ t, ns.any (· == t) = (l.take k).any (fun y => y.number == t)) /\ MapAt wr 3 b2 k (numF ns) /\ wr.heap[b0]? = some (.cells cs 27 (0, 0)) /\ wr.heap[b1]? = some (.cells #[.int .i64 hour] 3 (0, 0)) /\ Ext w wr
theorem kind_other {v : EvV} (h : v.x.kind ≠ 7) (W : World) : (Instr.typeAssert (kindV v) 20 134 true).run Tryz.prog W = .ok (.tuple #[.agg #[.int .i64 0], .bool false]) W := by
 rcases (by omega : v.x.kind = 1 \/ v.x.kind = 2 \/ v.x.kind = 3 \/ v.x.kind = 4 \/ v.x.kind = 5 \/ v.x.kind = 6 \/ (v.x.kind < 1 \/ 7 < v.x.kind)) with e | e | e | e | e | e | e
 ·rw [kindV_1 e]; kernel_rfl
 ·rw [kindV_2 e]; kernel_rfl
 ·rw [kindV_3 e]; kernel_rfl
 ·rw [kindV_4 e]; kernel_rfl
 ·rw [kindV_5 e]; kernel_rfl
 ·rw [kindV_6 e]; kernel_rfl
 rw [kindV_0 e]; kernel_rfl
theorem kind_void {v : EvV} (h : v.x.kind = 7) (W : World) : (Instr.typeAssert (kindV v) 20 134 true).run Tryz.prog W = .ok (.tuple #[.agg #[.int .i64 v.x.target], .bool true]) W := by
 rw [kindV_7 h]; kernel_rfl
theorem makeHint (t : Int) (W : World) : (Instr.makeMap 160 (some (.int .i64 t))).run Tryz.prog W = .ok (.map (some W.heap.size)) (W.alloc (.map #[] 0)) := by kernel_rfl
def stW (hour : Int) (pre : List EvW) : ZI × List EvV := effFold hour (pre.map fun x => x.1.2)
def EffRow (hour : Int) (S B10 : Nat) (pre : List EvW) (W : World) : Prop := ∃ v, Boxed W B10 25 v /\ W.ownsRow S 30 7 v (stW hour pre).2.length ((stW hour pre).2.flatMap EvV.cells) /\ (v = .slice none 0 0 ↔ (stW hour pre).2 = [])
def EffI (hour : Int) (B10 m B11 Bh Bs : Nat) (sv : Value) (w : World) (pre : List EvW) (W : World) : Prop :=
 EffRow hour w.heap.size B10 pre W /\ (MapAt W 3 m pre.length (numF (stW hour pre).1) /\ (Boxed W B11 160 (.map (some m)) /\ (Boxed W Bh 3 (.int .i64 hour) /\ (Boxed W Bs 25 sv /\ Below w.heap.size w W))))
theorem stW_snoc (hour : Int) (pre : List EvW) (x : EvW) : stW hour (pre ++ [x]) = effStep hour (stW hour pre) x.1.2 := by simp [stW, effFold_snoc]
theorem stW_len (hour : Int) (pre : List EvW) : (stW hour pre).2.length <= pre.length := by have := (effFold_len hour (pre.map fun x => x.1.2)).1; simpa [stW] using this
theorem effI_own {hour : Int} {S B10 m B11 Bh Bs : Nat} {sv : Value} {w : World} (hm : m < S) (hw : w.heap.size <= S) : OwnFrom S (EffI hour B10 m B11 Bh Bs sv w) := by
 refine OwnFrom.and (Own.from (holdsRow_own w.heap.size B10 25 30 7 (fun pre => (stW hour pre).2.length) (fun pre => (stW hour pre).2.flatMap EvV.cells) (fun pre v => (v = .slice none 0 0 ↔ (stW hour pre).2 = []))) _) ?_
 refine OwnFrom.and (fun s A B row hs hg hr => hs.grown hg (fun e => by have := (hr _ e.symm).1; omega)) ?_
 refine OwnFrom.and (Own.from (boxed_own _ _ (fun _ => .map (some m))) _) ?_
 refine OwnFrom.and (Own.from (boxed_own _ _ (fun _ => .int .i64 hour)) _) ?_
 exact OwnFrom.and (Own.from (boxed_own _ _ (fun _ => sv)) _) (ownFrom_below (Nat.le_refl _) hw)
theorem upto_bwd (vs : List EvV) (hg : ∀ v ∈ vs, goodV v) : (uptoL (bwd vs hg) vs.length).map (fun x => x.1.2) = vs.reverse := by
 apply List.ext_getElem
 ·simp [uptoL]
 intro i h1 h2
 have hi : i < vs.length := by simpa using h2
 simp only [uptoL, List.getElem_map, List.getElem_range, bwd, List.getElem_reverse]
 rw [List.getD_eq_getElem?_getD, List.getElem?_eq_getElem (by omega)]
 rfl
theorem evRows_of {w : World} {vs : List EvV} {a : OA} {n c : Nat} (h : IsRows w 7 EvV.cells vs a n c) : EvRows w.heap.size w vs a := fun i hi => by
 obtain ⟨b, off, e, hc⟩ := h.2.2.2 i hi
 exact ⟨b, off, e, block_lt (hc 0 (by simp [EvV.len])), hc⟩
theorem putObj_sub {W : World} {D : Nat} {o o' : Obj} (h : W.heap[D]? = some o) (hc : o.isCells = false) : Sub W (W.putObj D o') := fun _ _ hv => cell_kept hv (grownBy_putObj' W D o') (fun r e => by cases e; exact ⟨_, h, hc⟩)
theorem Boxed.ext {W W' : World} {B : Nat} {t : TypeId} {v : Value} (h : Boxed W B t v) (he : Ext W W') : Boxed W' B t v := he.blk h
theorem Ext.keepsFrom {W W' : World} (h : Ext W W') (B : Nat) : KeepsFrom B W W' := ⟨h.size, fun k _ _ hk _ => (h.block k (Array.getElem?_eq_some_iff.1 hk).1).trans hk⟩
theorem eff_end {hour : Int} {S B10 m B11 Bh Bs pn kn : Nat} {sv rv v' : Value} {w W wX w9 : World} {tmp : Obj} {pre : List EvW} {x : EvW} {V : ZI} {KP : List EvV}
  (hst : stW hour (pre ++ [x]) = (V, KP ++ [x.1.2])) (hkn : kn = KP.length) (hpn : pn = pre.length)
  (hv : Boxed wX B10 25 rv) (hrow : wX.ownsRow w.heap.size 30 7 rv kn (KP.flatMap EvV.cells)) (hmap : MapAt wX 3 m (pn + 1) (numF V)) (hb11 : Boxed wX B11 160 (.map (some m))) (hbh : Boxed wX Bh 3 (.int .i64 hour)) (hbs : Boxed wX Bs 25 sv)
  (hB : Below w.heap.size w wX) (hKF : KeepsFrom S W wX) (hBW : Below w.heap.size W wX) (hbsW : Boxed W Bs 25 sv)
  (hown' : w9.ownsRow w.heap.size 30 7 v' (kn + 1) (KP.flatMap EvV.cells ++ x.1.2.cells)) (hgrow : (wX.alloc tmp).grownBy w9 rv.ownBlock)
  (h1 : B11 ≠ B10) (h2 : Bh ≠ B10) (h3 : Bs ≠ B10) (h4 : m ≠ B10) (h5 : w.heap.size <= B10) :
  KeepsFrom S W (w9.setCell ⟨B10, 0, none⟩ v') /\ KpB w.heap.size Bs W (w9.setCell ⟨B10, 0, none⟩ v') /\ EffI hour B10 m B11 Bh Bs sv w (pre ++ [x]) (w9.setCell ⟨B10, 0, none⟩ v') := by
 obtain ⟨g1, g2, g3, g4, g5⟩ := Boxed.appended hv (by decide) hrow hB.size h5 hown' hgrow
 have other : ∀ {B : Nat} {t : TypeId} {u : Value}, Boxed wX B t u -> t ≠ 30 -> B ≠ B10 -> Boxed (w9.setCell ⟨B10, 0, none⟩ v') B t u := fun hb ht hne =>
  ((hb.alloc tmp).kept hgrow ((hb.alloc tmp).not_row ht (hrow.alloc tmp))).other hne v'
 have hbs' := other hbs (by decide) h3
 obtain ⟨gg, cap, rfl⟩ := ownsRow_succ hown'
 refine ⟨hKF.trans (g4.from _), ⟨hBW.trans g5, hbs'.trans hbsW.symm⟩, ⟨_, g2, ?_, ?_⟩, ?_, other hb11 (by decide) h1, other hbh (by decide) h2, hbs', hB.trans g5⟩
 ·rw [hst]
  have e1 : (KP ++ [x.1.2]).length = kn + 1 := by simp [hkn]
  have e2 : (KP ++ [x.1.2]).flatMap EvV.cells = KP.flatMap EvV.cells ++ x.1.2.cells := by simp
  show World.ownsRow _ _ _ _ _ (KP ++ [x.1.2]).length ((KP ++ [x.1.2]).flatMap EvV.cells)
  rw [e1, e2]
  exact g3
 ·rw [hst]; simp
 rw [hst]
 have e1 : (pre ++ [x]).length = pn + 1 := by simp [hpn]
 rw [e1]
 have hm2 := (hmap.ext ((Ext.refl wX).alloc tmp)).grown hgrow ((hmap.ext ((Ext.refl wX).alloc tmp)).not_row (hrow.alloc tmp))
 exact hm2.grown (grownBy_setCell' _ _ _) (fun e => h4 (by cases e; rfl))
theorem effective_calls (c : Clm) (a : OA) (n cap : Nat) (hour : Int) (w : World) (hi : IsEvs w c.events a n cap) (hn2 : n <= 1000000000000) (hfit : ∀ x ∈ c.events, fitEv x) :
  Calls Tryz.prog 46 #[ClmArg c a n cap, .int .i64 hour] w (EffQ c hour w) := by
 have HN := hI hi.len
 obtain ⟨vs, hrows, hvs, hits⟩ := hi
 obtain ⟨l, hl⟩ : ∃ l, l = c.events := ⟨_, rfl⟩
 have HVS := hI (hl.trans hvs)
 have HROWS := hI hrows
 have HITS := hI hits
 have HL := hI hl
 have HFIT := hI (show ∀ x ∈ l, fitEv x by rw [hl]; exact hfit)
 rw [<- hl] at HN
 have hmm := @run_makeMap Tryz.prog
 have hmh := makeHint
 clear hrows hvs hits hl hfit
 refine (callsIn_wide (n := 6)).1 ?_
 refine callsIn_of_wp_marks Tryz.func46 rfl trivial ?_ rfl
 simp only [Tryz.ntmps46, List.size_toArray, List.length_cons, List.length_nil, Nat.reduceAdd, Nat.reduceSub, Array.replicate_succ, Array.replicate_zero, List.push_toArray, List.append_toArray, List.nil_append, List.cons_append]
 refine wpIn_wide.2 ?_
 unfold ClmArg
 obtain ⟨wa, hwa⟩ : ∃ wa, wa = ((w.alloc (.cells #[.int .i64 c.id, .int .i64 c.policy, .int .i64 c.risk, .int .i64 c.hour, .int .i64 c.peril, .int .i64 c.area, .slice a n cap] 27)).alloc (.cells #[.int .i64 hour] 3)).alloc (.map #[] 0) := ⟨_, rfl⟩
 have HXA := hI (show Ext w wa by rw [hwa]; exact (((Ext.refl _).alloc _).alloc _).alloc _)
 have HB0 := hI (show wa.heap[w.heap.size]? = some (.cells #[.int .i64 c.id, .int .i64 c.policy, .int .i64 c.risk, .int .i64 c.hour, .int .i64 c.peril, .int .i64 c.area, .slice a n cap] 27 (0, 0)) by rw [hwa]; exact blk_alloc (blk_alloc (alloc_new w _)))
 have HB1 := hI (show wa.heap[w.heap.size + 1]? = some (.cells #[.int .i64 hour] 3 (0, 0)) by rw [hwa]; exact blk_alloc (by have := alloc_new (w.alloc (.cells #[.int .i64 c.id, .int .i64 c.policy, .int .i64 c.risk, .int .i64 c.hour, .int .i64 c.peril, .int .i64 c.area, .slice a n cap] 27)) (.cells #[.int .i64 hour] 3); rwa [World.size_alloc] at this))
 have HM := hI (show MapAt wa 3 (w.heap.size + 1 + 1) 0 (fun _ => none) by rw [hwa]; have := MapAt.made ((w.alloc (.cells #[.int .i64 c.id, .int .i64 c.policy, .int .i64 c.risk, .int .i64 c.hour, .int .i64 c.peril, .int .i64 c.area, .slice a n cap] 27)).alloc (.cells #[.int .i64 hour] 3)) 3; rwa [World.size_alloc, World.size_alloc] at this)
 obtain ⟨b0, b1, b2, b3, b4, b5, b6, bf⟩ := blk7 HB0.out
 obtain ⟨e0, ef⟩ := blk1 HB1.out
 go_upto_region 2 with fail
 rw [<- hwa]
 clear hwa
 go_wp2_with fail
 go_loopw [23] (EffA l n w.heap.size (w.heap.size + 1) (w.heap.size + 1 + 1) (ClmCells c a n cap) hour w) (fun t _ => n - (intOf t).toNat)
 case atStart => exact ⟨0, [], rfl, by omega, rfl, fun t => rfl, HM.out.congr (fun x => (numF_nil x).symm), HB0.out, HB1.out, HXA.out⟩
 case round =>
  obtain ⟨k, ns, rfl, hk, hso, hns, hmap, hc0, hc1, hx⟩ := hrel
  obtain ⟨wo, rfl⟩ : ∃ wo : World, wo = wr := ⟨_, rfl⟩
  have HSO := hI hso
  have HNS := hI hns
  have HMP := hI hmap
  have HC0 := hI hc0
  have HC1 := hI hc1
  have HX := hI hx
  clear hso hns hmap hc0 hc1 hx b0 b1 b2 b3 b4 b5 b6 bf e0 ef HB0 HB1 HM HXA
  by_cases hkn : k < n
  ·have hkl : k < l.length := by have := HN.out; omega
   have hkv : k < vs.length := by have := HVS.out; rw [this] at hkl; simpa using hkl
   have HLK := hI (show l[k] = vs[k].x by have e := HVS.out; simp [e])
   have HFK := hI (show fitEv vs[k].x by rw [<- HLK.out]; exact HFIT.out _ (List.getElem_mem hkl))
   have t1 : decide ((k : Int) < (n : Int)) = true := decide_eq_true (by omega)
   obtain ⟨b, off, rfl, c0, c1, c2, c3, c4, c5, c6⟩ := rows_seven (HROWS.out.ext HX.out) hkv
   obtain ⟨wb, hwb⟩ : ∃ wb, wb = wo.alloc (.cells #[.int .i64 vs[k].x.number, .int .i64 vs[k].x.known, .int .i64 vs[k].x.kind, .slice vs[k].a vs[k].n vs[k].c, .int .i64 vs[k].x.cur, .int .i64 vs[k].x.amount, .int .i64 vs[k].x.target] 30) := ⟨_, rfl⟩
   have HXB := hI (show Ext wo wb by rw [hwb]; exact (Ext.refl _).alloc _)
   have HBE := hI (show wb.heap[wo.heap.size]? = some (.cells #[.int .i64 vs[k].x.number, .int .i64 vs[k].x.known, .int .i64 vs[k].x.kind, .slice vs[k].a vs[k].n vs[k].c, .int .i64 vs[k].x.cur, .int .i64 vs[k].x.amount, .int .i64 vs[k].x.target] 30 (0, 0)) by rw [hwb]; exact alloc_new wo _)
   have HK := hI (fun W => kindOf_calls vs[k] W)
   unfold EvV.val at HK
   have HKT := hI (fun (h : vs[k].x.kind = 7) => kind_void h)
   have HKO := hI (fun (h : vs[k].x.kind ≠ 7) => kind_other h)
   obtain ⟨KV, hKV⟩ : ∃ KV, KV = kindV vs[k] := ⟨_, rfl⟩
   rw [<- hKV] at HK HKT HKO
   obtain ⟨E1, hE1⟩ : ∃ E1, E1 = ns.any (· == vs[k].x.target) := ⟨_, rfl⟩
   obtain ⟨E2, hE2⟩ : ∃ E2, E2 = ns.any (· == vs[k].x.number) := ⟨_, rfl⟩
   have HG1 := hI (numF_get ns vs[k].x.target)
   have HG2 := hI (numF_get ns vs[k].x.number)
   rw [<- hE1] at HG1
   rw [<- hE2] at HG2
   have HOK := hI (show soundEvs [] (l.take (k + 1)) = !((isVoid vs[k].x && !E1) || E2) by
    rw [soundEvs_step hkl HSO.out, okEv, HLK.out, hE1, hE2, HNS.out, HNS.out])
   clear hKV hE1 hE2
   go_wp2_with fail
   rw [<- hwb]
   clear hwb c0 c1 c2 c3 c4 c5 c6
   refine (HK.out wb).mono ?_
   rintro r w5 ⟨rfl, hx5⟩
   have HX5 := hI ((HX.out.trans HXB.out).trans hx5)
   have HE5 := hI (hx5.blk HBE.out)
   have HM5 := hI (HMP.out.ext (HXB.out.trans hx5))
   have HC5 := hI (hx5.blk (HXB.out.blk HC0.out))
   have HD5 := hI (hx5.blk (HXB.out.blk HC1.out))
   clear hx5 HMP HC0 HC1 HX HK
   by_cases h7 : vs[k].x.kind = 7
   ·have hta := HKT.out h7
    have HV := hI (show isVoid vs[k].x = true by simp [isVoid, h7])
    clear h7 HKT HKO
    obtain ⟨w6, hw6⟩ : ∃ w6, w6 = w5.alloc (.cells #[.int .i64 vs[k].x.target] 134) := ⟨_, rfl⟩
    have HXS := hI (show Ext w5 w6 by rw [hw6]; exact (Ext.refl _).alloc _)
    have HT6 := hI (show w6.heap[w5.heap.size]? = some (.cells #[.int .i64 vs[k].x.target] 134 (0, 0)) by rw [hw6]; exact alloc_new w5 _)
    have HX6 := hI (HX5.out.trans HXS.out)
    have HE6 := hI (HXS.out.blk HE5.out)
    have HM6 := hI (HM5.out.ext HXS.out)
    have HC6 := hI (HXS.out.blk HC5.out)
    have HD6 := hI (HXS.out.blk HD5.out)
    obtain ⟨f0, f1, f2, f3, f4, f5, f6, ff⟩ := blk7 HE6.out
    obtain ⟨g0, gf⟩ := blk1 HT6.out
    go_upto_region 6 with fail
    rw [<- hw6]
    clear hw6 HX5 HE5 HM5 HC5 HD5 HXS
    cases E1
    case false =>
     have HBAD := hI (show soundEvs [] l = false from soundEvs_bad (k := k + 1) (by rw [HOK.out, HV.out]; rfl))
     go_wp2_with (first
      | (at_lookup; refine wpList_map_get2 _ (by rfl) _ _ 160 rfl 3 4 keyedI uMapIB (zeroB _) (w.heap.size + 1 + 1) k _ rfl HM6.out _ _ rfl (keyI HFK.out.2) trivial ?_; rw [HG1.out])
      | (at_lookup; refine wpList_map_get2 _ (by rfl) _ _ 160 rfl 3 4 keyedI uMapIB (zeroB _) (w.heap.size + 1 + 1) k _ rfl HM6.out _ _ rfl (keyI HFK.out.1) trivial ?_; rw [HG2.out]))
     exact ⟨_, results_tmp rfl _ _ _, none, 0, 0, rfl, by rw [<- HL.out, effL_bad HBAD.out]; exact IsEvs.nil _, HX6.out⟩
    case true =>
     cases E2
     case true =>
      have HBAD := hI (show soundEvs [] l = false from soundEvs_bad (k := k + 1) (by rw [HOK.out, HV.out]; rfl))
      go_wp2_with (first
       | (at_lookup; refine wpList_map_get2 _ (by rfl) _ _ 160 rfl 3 4 keyedI uMapIB (zeroB _) (w.heap.size + 1 + 1) k _ rfl HM6.out _ _ rfl (keyI HFK.out.2) trivial ?_; rw [HG1.out])
       | (at_lookup; refine wpList_map_get2 _ (by rfl) _ _ 160 rfl 3 4 keyedI uMapIB (zeroB _) (w.heap.size + 1 + 1) k _ rfl HM6.out _ _ rfl (keyI HFK.out.1) trivial ?_; rw [HG2.out]))
      exact ⟨_, results_tmp rfl _ _ _, none, 0, 0, rfl, by rw [<- HL.out, effL_bad HBAD.out]; exact IsEvs.nil _, HX6.out⟩
     case false =>
      have HSK := hI (show soundEvs [] (l.take (k + 1)) = true by rw [HOK.out, HV.out]; rfl)
      go_wp2_with (first
       | (at_mapUpdate; refine wpList_map_put _ rfl _ _ _ 160 rfl 3 4 keyedI uMapIB (w.heap.size + 1 + 1) k _ rfl HM6.out ?c3 _ _ _ rfl rfl (keyI HFK.out.1) trivial ?_)
       | (at_lookup; refine wpList_map_get2 _ (by rfl) _ _ 160 rfl 3 4 keyedI uMapIB (zeroB _) (w.heap.size + 1 + 1) k _ rfl HM6.out _ _ rfl (keyI HFK.out.2) trivial ?_; rw [HG1.out])
       | (at_lookup; refine wpList_map_get2 _ (by rfl) _ _ 160 rfl 3 4 keyedI uMapIB (zeroB _) (w.heap.size + 1 + 1) k _ rfl HM6.out _ _ rfl (keyI HFK.out.1) trivial ?_; rw [HG2.out]))
      case c3 => unfold maxLen; omega
      intro w7 hm7 hc7
      have HX7 := hI (hc7.ext HX6.out (fun y hy => by simp only [List.mem_singleton] at hy; omega))
      have HM7 := hI (hm7.congr (fun x => numF_put ns _ x))
      have HC7 := hI (hc7.blk HC6.out (by simp only [List.mem_singleton]; omega))
      have HD7 := hI (hc7.blk HD6.out (by simp only [List.mem_singleton]; omega))
      clear hm7 hc7
      go_wp2_with fail
      go_roundw
      case rel =>
       refine ⟨k + 1, vs[k].x.number :: ns, by go_num, by omega, HSK.out, fun t => ?_, HM7.out, HC7.out, HD7.out, HX7.out⟩
       rw [List.any_cons, HNS.out, List.take_succ_eq_append_getElem hkl, List.any_append, HLK.out]
       simp [Bool.or_comm]
      case measure => simp [intOf]; omega
   have hta := HKO.out h7
   have HV := hI (show isVoid vs[k].x = false by simp [isVoid, h7])
   clear h7 HKT HKO
   obtain ⟨w6, hw6⟩ : ∃ w6, w6 = w5.alloc (.cells #[.int .i64 0] 134) := ⟨_, rfl⟩
   have HXS := hI (show Ext w5 w6 by rw [hw6]; exact (Ext.refl _).alloc _)
   have HT6 := hI (show w6.heap[w5.heap.size]? = some (.cells #[.int .i64 0] 134 (0, 0)) by rw [hw6]; exact alloc_new w5 _)
   have HX6 := hI (HX5.out.trans HXS.out)
   have HE6 := hI (HXS.out.blk HE5.out)
   have HM6 := hI (HM5.out.ext HXS.out)
   have HC6 := hI (HXS.out.blk HC5.out)
   have HD6 := hI (HXS.out.blk HD5.out)
   obtain ⟨f0, f1, f2, f3, f4, f5, f6, ff⟩ := blk7 HE6.out
   obtain ⟨g0, gf⟩ := blk1 HT6.out
   go_upto_region 6 with fail
   rw [<- hw6]
   clear hw6 HX5 HE5 HM5 HC5 HD5 HXS
   cases E2
   case true =>
    have HBAD := hI (show soundEvs [] l = false from soundEvs_bad (k := k + 1) (by rw [HOK.out, HV.out]; rfl))
    go_wp2_with (first
     | (at_lookup; refine wpList_map_get2 _ (by rfl) _ _ 160 rfl 3 4 keyedI uMapIB (zeroB _) (w.heap.size + 1 + 1) k _ rfl HM6.out _ _ rfl (keyI HFK.out.2) trivial ?_; rw [HG1.out])
     | (at_lookup; refine wpList_map_get2 _ (by rfl) _ _ 160 rfl 3 4 keyedI uMapIB (zeroB _) (w.heap.size + 1 + 1) k _ rfl HM6.out _ _ rfl (keyI HFK.out.1) trivial ?_; rw [HG2.out]))
    exact ⟨_, results_tmp rfl _ _ _, none, 0, 0, rfl, by rw [<- HL.out, effL_bad HBAD.out]; exact IsEvs.nil _, HX6.out⟩
   case false =>
    have HSK := hI (show soundEvs [] (l.take (k + 1)) = true by rw [HOK.out, HV.out]; rfl)
    go_wp2_with (first
     | (at_mapUpdate; refine wpList_map_put _ rfl _ _ _ 160 rfl 3 4 keyedI uMapIB (w.heap.size + 1 + 1) k _ rfl HM6.out ?c3 _ _ _ rfl rfl (keyI HFK.out.1) trivial ?_)
     | (at_lookup; refine wpList_map_get2 _ (by rfl) _ _ 160 rfl 3 4 keyedI uMapIB (zeroB _) (w.heap.size + 1 + 1) k _ rfl HM6.out _ _ rfl (keyI HFK.out.2) trivial ?_; rw [HG1.out])
     | (at_lookup; refine wpList_map_get2 _ (by rfl) _ _ 160 rfl 3 4 keyedI uMapIB (zeroB _) (w.heap.size + 1 + 1) k _ rfl HM6.out _ _ rfl (keyI HFK.out.1) trivial ?_; rw [HG2.out]))
    case c3 => unfold maxLen; omega
    intro w7 hm7 hc7
    have HX7 := hI (hc7.ext HX6.out (fun y hy => by simp only [List.mem_singleton] at hy; omega))
    have HM7 := hI (hm7.congr (fun x => numF_put ns _ x))
    have HC7 := hI (hc7.blk HC6.out (by simp only [List.mem_singleton]; omega))
    have HD7 := hI (hc7.blk HD6.out (by simp only [List.mem_singleton]; omega))
    clear hm7 hc7
    go_wp2_with fail
    go_roundw
    case rel =>
     refine ⟨k + 1, vs[k].x.number :: ns, by go_num, by omega, HSK.out, fun t => ?_, HM7.out, HC7.out, HD7.out, HX7.out⟩
     rw [List.any_cons, HNS.out, List.take_succ_eq_append_getElem hkl, List.any_append, HLK.out]
     simp [Bool.or_comm]
    case measure => simp [intOf]; omega
  have t1 : decide ((k : Int) < (n : Int)) = false := decide_eq_false (by omega)
  have hke : k = n := by omega
  have HSND := hI (show soundEvs [] l = true by have := HSO.out; rwa [hke, HN.out, List.take_length] at this)
  have HWO := hI HMP.out.lt
  obtain ⟨d0, d1, d2, d3, d4, d5, d6, df⟩ := blk7 (show wo.heap[w.heap.size]? = some (.cells #[.int .i64 c.id, .int .i64 c.policy, .int .i64 c.risk, .int .i64 c.hour, .int .i64 c.peril, .int .i64 c.area, .slice a n cap] 27 (0, 0)) from HC0.out)
  have hlt0 := blk_lt HC0.out
  clear hke HSO HNS HMP
  obtain ⟨wp, hwp⟩ : ∃ wp, wp = ((wo.alloc (.cells #[.slice none 0 0] 25)).alloc (.map #[] 0)).alloc (.cells #[.map (some (wo.heap.size + 1))] 160) := ⟨_, rfl⟩
  have HXP := hI (show Ext wo wp by rw [hwp]; exact (((Ext.refl _).alloc _).alloc _).alloc _)
  have hsz : wp.heap.size = wo.heap.size + 1 + 1 + 1 := by rw [hwp]; simp
  have HSZ := hI hsz
  have HP0 := hI (show wp.heap[wo.heap.size]? = some (.cells #[.slice none 0 0] 25 (0, 0)) by rw [hwp]; exact blk_alloc (blk_alloc (alloc_new wo _)))
  have HPM := hI (show MapAt wp 3 (wo.heap.size + 1) 0 (fun _ => none) by rw [hwp]; have := MapAt.made (wo.alloc (.cells #[.slice none 0 0] 25)) 3; rw [World.size_alloc] at this; exact this.ext ((Ext.refl _).alloc _))
  have HP1 := hI (show wp.heap[wo.heap.size + 1 + 1]? = some (.cells #[.map (some (wo.heap.size + 1))] 160 (0, 0)) by rw [hwp]; have := alloc_new ((wo.alloc (.cells #[.slice none 0 0] 25)).alloc (.map #[] 0)) (.cells #[.map (some (wo.heap.size + 1))] 160); rwa [World.size_alloc, World.size_alloc] at this)
  have HPC := hI (HXP.out.blk HC0.out)
  have HPH := hI (HXP.out.blk HC1.out)
  clear hsz d0 d1 d2 d3 d4 d5 d6 df hlt0 HC0 HC1
  obtain ⟨d0, d1, d2, d3, d4, d5, d6, df⟩ := blk7 (show wp.heap[w.heap.size]? = some (.cells #[.int .i64 c.id, .int .i64 c.policy, .int .i64 c.risk, .int .i64 c.hour, .int .i64 c.peril, .int .i64 c.area, .slice a n cap] 27 (0, 0)) from HPC.out)
  go_upto_region 12 with fail
  rw [<- hwp]
  clear hwp
  go_wp2_with fail
  refine (back_calls _ _ _ _).mono ?_
  rintro r w2 ⟨rfl, rfl⟩
  go_wp2_with fail
  obtain ⟨wS, hwS⟩ : ∃ wS, wS = wp.alloc (.cells #[.slice a n cap] 25) := ⟨_, rfl⟩
  have HXS := hI (show Ext wp wS by rw [hwS]; exact (Ext.refl _).alloc _)
  have HSS := hI (show wS.heap.size = wp.heap.size + 1 by rw [hwS]; simp)
  have HS0 := hI (show wS.heap[wp.heap.size]? = some (.cells #[.slice a n cap] 25 (0, 0)) by rw [hwS]; exact alloc_new wp _)
  rw [<- hwS]
  have HXW := hI ((HX.out.trans HXP.out).trans HXS.out)
  have HVN := hI (show n = vs.length by rw [HN.out, HVS.out, List.length_map])
  have hgood : ∀ v ∈ vs, goodV v := fun v hv => HFIT.out v.x (by rw [HVS.out]; exact List.mem_map.2 ⟨v, hv, rfl⟩)
  clear hwS d0 d1 d2 d3 d4 d5 d6 df
  refine (wpIn_wide (n := 6)).1 ?_
  refine wpIn_rangeFunc_box 13 30 (fun x : EvW => x.1.2.cells.toArray) rfl (by omega) (gf := 132) (lb := #[.pointer (some ⟨wp.heap.size, 0, none⟩)]) rfl trivial (enters_of Tryz.func132 (by kernel_rfl) rfl)
   (back_stops Fence.wide (6 - 1) trivial rfl (by omega) wp.heap.size w.heap.size a cap n vs HVN.out (by omega) hgood wS ?s1 HS0.out ?s2) KpB.t (KpB.b ?s3 ?s4) (Below.refl _ _) (fun _ => rfl)
   (EffI hour wo.heap.size (wo.heap.size + 1) (wo.heap.size + 1 + 1) (w.heap.size + 1) wp.heap.size (.slice a n cap) w) (effI_own ?s5 ?s6) ?s7 ?assign ?body ?done
  case s1 => exact HXW.out.size
  case s2 => exact (evRows_of HROWS.out).below HXW.out
  case s3 => exact HXW.out.size
  case s4 => have := HSS.out; omega
  case s5 => have := HSS.out; have := HSZ.out; omega
  case s6 => exact HXW.out.size
  case s7 => exact ⟨⟨.slice none 0 0, HXS.out.blk HP0.out, ⟨rfl, Or.inl ⟨rfl, rfl⟩⟩, by simp [stW, effFold]⟩, (HPM.out.ext HXS.out).congr (fun x => (numF_nil x).symm), HXS.out.blk HP1.out, HXS.out.blk HPH.out, HS0.out, HXW.out⟩
  case assign =>
   rintro l' pre ⟨⟨ix, xv⟩, hx⟩ W K hI hK
   obtain ⟨hrow, hmap, hb11, hbh, hbs, hB⟩ := hI
   obtain ⟨rv, hr1, hr2, hr3⟩ := hrow
   have HSW := hI (show wS.heap.size <= W.heap.size by have := hbs.lt; have := HSS.out; omega)
   have HK := hI (hK W.heap.size (W.alloc (.cells xv.cells.toArray 30)) ((KeepsOthers.alloc _ _).from _) ⟨(Below.refl _ W).alloc hB.size _, blk_alloc hbs |>.trans hbs.symm⟩ ⟨⟨rv, hr1.alloc _, hr2.alloc _, hr3⟩, hmap.ext ((Ext.refl W).alloc _), hb11.alloc _, hbh.alloc _, hbs.alloc _, hB.alloc hB.size _⟩ HSW.out (alloc_new W _))
   clear hK hmap hb11 hbh hbs hB hr1 hr2 hr3
   unfold actB encW EvV.val at HK
   unfold encW EvV.val
   unfold EvV.cells at HK
   dsimp only at HK ⊢
   gi_wp2
   have HK2 := HK.out
   simp at HK2
   exact HK2
  case body =>
   rintro l' pre ⟨⟨ix, xv⟩, hx⟩ Bx W ⟨⟨rv, hr1, hr2, hr3⟩, hmap, hb11, hbh, hbs, hB⟩ hBx hbx hlt
   have HST := hI (stW_snoc hour pre ⟨(ix, xv), hx⟩)
   have HKL := hI (stW_len hour pre)
   obtain ⟨V, hV⟩ : ∃ V, V = (stW hour pre).1 := ⟨_, rfl⟩
   obtain ⟨KP, hKP⟩ : ∃ KP, KP = (stW hour pre).2 := ⟨_, rfl⟩
   have hsp : stW hour pre = (V, KP) := by rw [hV, hKP]
   rw [hsp] at HST HKL
   rw [<- hV] at hmap
   rw [<- hKP] at hr2 hr3
   obtain ⟨kn, hkn⟩ : ∃ kn, kn = KP.length := ⟨_, rfl⟩
   obtain ⟨pn, hpn⟩ : ∃ pn, pn = pre.length := ⟨_, rfl⟩
   rw [<- hkn] at hr2
   rw [<- hpn] at hmap hlt
   have hknl : kn <= pn := by have := HKL.out; simp only at this; omega
   have HKN := hI hkn
   have HPN := hI hpn
   have HR2 := hI hr2
   have HR1 := hI hr1
   have HB1 := hI hb11
   have HH1 := hI hbh
   have HR3 := hI hr3
   have HMP := hI hmap
   have HBS := hI hbs
   have HBX := hI (show W.heap[Bx]? = some (.cells #[.int .i64 xv.x.number, .int .i64 xv.x.known, .int .i64 xv.x.kind, .slice xv.a xv.n xv.c, .int .i64 xv.x.cur, .int .i64 xv.x.amount, .int .i64 xv.x.target] 30 (0, 0)) from hbx)
   have HBW := hI hB
   obtain ⟨x0, x1, x2, x3, x4, x5, x6, xf⟩ := blk7 HBX.out
   have c10 := hr1.cell
   have c11 := hb11.cell
   have chh := hbh.cell
   have hlt0 := blk_lt HBX.out
   obtain ⟨E, hE⟩ : ∃ E, E = V.any (· == xv.x.number) := ⟨_, rfl⟩
   have HG := hI (numF_get V xv.x.number)
   rw [<- hE] at HG
   have HEE := hI hE
   clear hE hV hKP hsp hkn hpn hr1 hr2 hr3 hb11 hbh hmap hbs hbx hB HKL
   unfold actB encW EvV.val
   dsimp only
   by_cases hk1 : hour < xv.x.known
   ·have tk : decide (hour < xv.x.known) = true := decide_eq_true hk1
    have HS2 := hI (show stW hour (pre ++ [⟨(ix, xv), hx⟩]) = (V, KP) by rw [HST.out, effStep, if_pos (Or.inl hk1)])
    clear hk1
    gi_wp2
    exact ⟨KeepsFrom.refl _ _, KpB.refl _ _ _, ⟨rv, HR1.out, by rw [HS2.out, <- HKN.out]; exact HR2.out, by rw [HS2.out]; exact HR3.out⟩, by rw [HS2.out, List.length_append, <- HPN.out]; exact HMP.out.more (by simp), HB1.out, HH1.out, HBS.out, HBW.out⟩
   have tk : decide (hour < xv.x.known) = false := decide_eq_false hk1
   cases E
   case true =>
    have HS2 := hI (show stW hour (pre ++ [⟨(ix, xv), hx⟩]) = (V, KP) by rw [HST.out, effStep, if_pos (Or.inr HEE.out.symm)])
    clear hk1
    gi_wp2_with (gi_at_lookup; refine wpListIn_map_get2 _ (by rfl) _ _ 160 rfl 3 4 keyedI uMapIB (zeroB _) (wo.heap.size + 1) pn _ rfl HMP.out _ _ rfl (keyI hx.1) trivial ?_; rw [HG.out])
    exact ⟨KeepsFrom.refl _ _, KpB.refl _ _ _, ⟨rv, HR1.out, by rw [HS2.out, <- HKN.out]; exact HR2.out, by rw [HS2.out]; exact HR3.out⟩, by rw [HS2.out, List.length_append, <- HPN.out]; exact HMP.out.more (by simp), HB1.out, HH1.out, HBS.out, HBW.out⟩
   case false =>
    have HS2 := hI (show stW hour (pre ++ [⟨(ix, xv), hx⟩]) = (if isVoid xv.x then xv.x.target :: V else V, KP ++ [xv]) by rw [HST.out, effStep, if_neg (by rintro (h | h); exact hk1 h; rw [<- HEE.out] at h; cases h)])
    have HK := hI (fun W => kindOf_calls xv W)
    unfold EvV.val at HK
    have HKT := hI (fun (h : xv.x.kind = 7) => kind_void h)
    have HKO := hI (fun (h : xv.x.kind ≠ 7) => kind_other h)
    obtain ⟨KV, hKV⟩ : ∃ KV, KV = kindV xv := ⟨_, rfl⟩
    rw [<- hKV] at HK HKT HKO
    obtain ⟨i0, hi0, hz0, hz1, hz2⟩ := info_parts elemEv.info
    clear hk1 hKV
    by_cases h7 : xv.x.kind = 7
    ·have hta := HKT.out h7
     have HS3 := hI (show stW hour (pre ++ [⟨(ix, xv), hx⟩]) = (xv.x.target :: V, KP ++ [xv]) by rw [HS2.out, if_pos (by simp [isVoid, h7])])
     clear h7 HKT HKO
     gi_wp2_with (gi_at_lookup; refine wpListIn_map_get2 _ (by rfl) _ _ 160 rfl 3 4 keyedI uMapIB (zeroB _) (wo.heap.size + 1) pn _ rfl HMP.out _ _ rfl (keyI hx.1) trivial ?_; rw [HG.out])
     refine ⟨trivial, ?_⟩
     refine (CallsIn.inRound l' (callsIn_wide.2 (HK.out W))).mono ?_
     rintro r w5 ⟨rfl, hx5⟩
     have HX5 := hI hx5
     have HM5 := hI (HMP.out.ext hx5)
     have HR5 := hI (owns_ext HR2.out hx5)
     have HR15 := hI (Boxed.ext HR1.out hx5)
     have HB15 := hI (Boxed.ext HB1.out hx5)
     have HH15 := hI (Boxed.ext HH1.out hx5)
     have HS15 := hI (Boxed.ext HBS.out hx5)
     have cc10 := HR15.out.cell
     have cc11 := HB15.out.cell
     have hblt := HR15.out.lt
     have hblt2 := HB15.out.lt
     obtain ⟨y0, y1, y2, y3, y4, y5, y6, yf⟩ := blk7 (hx5.blk HBX.out)
     have hlt5 := blk_lt (hx5.blk HBX.out)
     have HBW5 := hI (HBW.out.trans (hx5.mono HBW.out.size))
     have hwsz := HBW5.out.size
     clear hx5 c10 c11 chh x0 x1 x2 x3 x4 x5 x6 xf hlt0
     gi_wp2_with (gi_at_mapUpdate; refine wpListIn_map_put _ rfl _ _ _ 160 rfl 3 4 keyedI uMapIB (wo.heap.size + 1) pn _ rfl (HM5.out.ext ((Ext.refl _).alloc _)) (by unfold maxLen; omega) _ _ _ rfl rfl (keyI hx.2) trivial ?_)
     intro w7 hm7 hg7
     have HM7 := hI (hm7.congr (fun x => numF_put V _ x))
     have HR17 := hI ((HR15.out.alloc _).kept hg7 (fun e => by simp at e))
     have HB17 := hI ((HB15.out.alloc _).kept hg7 (fun e => by simp at e))
     have HH17 := hI ((HH15.out.alloc _).kept hg7 (fun e => by have := HWO.out; simp at e; omega))
     have HS17 := hI ((HS15.out.alloc _).kept hg7 (fun e => by have := HSZ.out; simp at e; omega))
     have HRW7 := hI ((HR5.out.alloc _).kept hg7 (.inr (HM5.out.not_row HR5.out).symm))
     have HBW7 := hI ((HBW5.out.alloc HBW5.out.size _).grown hg7 (HBW5.out.alloc HBW5.out.size _).size (fun j e => by cases e; have := HWO.out; omega))
     have HKF7 := hI (((HX5.out.keepsFrom wS.heap.size).trans ((KeepsOthers.alloc _ _).from _)).trans (KeepsFrom.of_grownBy hg7 (fun j e => by cases e; have := HSS.out; have := HSZ.out; omega)))
     have HBX7 := hI (((HX5.out.mono HBW.out.size).alloc HBW5.out.size _).grown hg7 (HBW5.out.alloc HBW5.out.size _).size (fun j e => by cases e; have := HWO.out; omega))
     have dc10 := HR17.out.cell
     have hdlt := HR17.out.lt
     obtain ⟨z0, z1, z2, z3, z4, z5, z6, zf⟩ := blk7 ((hg7.block Bx (by simp; omega) (fun e => by simp at e; have := HSS.out; have := HSZ.out; omega)).trans (blk_alloc (HX5.out.blk HBX.out)))
     have hzlt := HBW7.out.size
     have hz7 := hg7.size
     rw [World.size_alloc] at hz7
     clear hm7 hg7 cc10 cc11 y0 y1 y2 y3 y4 y5 y6 yf
     gi_wp2_with (gi_at_builtin; refine wpListIn_append_own _ rfl _ _ 25 rfl w.heap.size 30 i0 zEv 7 72 elemEv.ht hi0 hz0 hz1 hz2 elemEv.hzs elemEv.hsz rv kn _ rfl (HRW7.out.alloc _) _ 1 1 xv.cells rfl rfl (cells_new_at _ xv.cells _ (by simp)) (cells_oneE xv) (by unfold maxLen; omega) (by omega) ?b3 ?_)
     case b3 => simp; omega
     intro v' w9 hown' hgrow hnn
     have HE := hI (eff_end (S := wS.heap.size) (x := ⟨(ix, xv), hx⟩) HS3.out HKN.out HPN.out HR17.out HRW7.out HM7.out HB17.out HH17.out HS17.out HBW7.out HKF7.out HBX7.out HBS.out hown' hgrow (by omega) (by have := HWO.out; omega) (by have := HSZ.out; omega) (by omega) (by have := HWO.out; omega))
     have hv1 := (Boxed.appended HR17.out (by decide) HRW7.out HBW7.out.size (by have := HWO.out; omega) hown' hgrow).1
     obtain ⟨g', cap', rfl⟩ := ownsRow_succ hown'
     have hc1 := hv1.cell
     have hf1 := hv1.frozen
     clear hown' hgrow hnn
     gi_wp2
     exact HE.out
    have hta := HKO.out h7
    have HS3 := hI (show stW hour (pre ++ [⟨(ix, xv), hx⟩]) = (V, KP ++ [xv]) by rw [HS2.out, if_neg (by simp [isVoid, h7])])
    clear h7 HKT HKO
    gi_wp2_with (gi_at_lookup; refine wpListIn_map_get2 _ (by rfl) _ _ 160 rfl 3 4 keyedI uMapIB (zeroB _) (wo.heap.size + 1) pn _ rfl HMP.out _ _ rfl (keyI hx.1) trivial ?_; rw [HG.out])
    refine ⟨trivial, ?_⟩
    refine (CallsIn.inRound l' (callsIn_wide.2 (HK.out W))).mono ?_
    rintro r w5 ⟨rfl, hx5⟩
    have HX5 := hI hx5
    have HM5 := hI (HMP.out.ext hx5)
    have HR5 := hI (owns_ext HR2.out hx5)
    have HR15 := hI (Boxed.ext HR1.out hx5)
    have HB15 := hI (Boxed.ext HB1.out hx5)
    have HH15 := hI (Boxed.ext HH1.out hx5)
    have HS15 := hI (Boxed.ext HBS.out hx5)
    have cc10 := HR15.out.cell
    have cc11 := HB15.out.cell
    have hblt := HR15.out.lt
    have hblt2 := HB15.out.lt
    obtain ⟨y0, y1, y2, y3, y4, y5, y6, yf⟩ := blk7 (hx5.blk HBX.out)
    have hlt5 := blk_lt (hx5.blk HBX.out)
    have HBW5 := hI (HBW.out.trans (hx5.mono HBW.out.size))
    have hwsz := HBW5.out.size
    clear hx5 c10 c11 chh x0 x1 x2 x3 x4 x5 x6 xf hlt0
    gi_wp2_with (gi_at_builtin; refine wpListIn_append_own _ rfl _ _ 25 rfl w.heap.size 30 i0 zEv 7 72 elemEv.ht hi0 hz0 hz1 hz2 elemEv.hzs elemEv.hsz rv kn _ rfl ((HR5.out.alloc _).alloc _) _ 1 1 xv.cells rfl rfl (cells_new_at _ xv.cells _ (by simp)) (cells_oneE xv) (by unfold maxLen; omega) (by omega) ?b3 ?_)
    case b3 => simp; omega
    intro v' w9 hown' hgrow hnn
    have HE := hI (eff_end (S := wS.heap.size) (x := ⟨(ix, xv), hx⟩) HS3.out HKN.out HPN.out (HR15.out.alloc _) (HR5.out.alloc _) ((HM5.out.more (Nat.le_succ pn)).ext ((Ext.refl _).alloc _)) (HB15.out.alloc _) (HH15.out.alloc _) (HS15.out.alloc _) (HBW5.out.alloc HBW5.out.size _) ((HX5.out.keepsFrom _).trans ((KeepsOthers.alloc _ _).from _)) ((HX5.out.mono HBW.out.size).alloc HBW5.out.size _) HBS.out hown' hgrow (by omega) (by have := HWO.out; omega) (by have := HSZ.out; omega) (by omega) (by have := HWO.out; omega))
    have hv1 := (Boxed.appended (HR15.out.alloc _) (by decide) (HR5.out.alloc _) (HBW5.out.alloc HBW5.out.size _).size (by have := HWO.out; omega) hown' hgrow).1
    obtain ⟨g', cap', rfl⟩ := ownsRow_succ hown'
    have hc1 := hv1.cell
    have hf1 := hv1.frozen
    clear hown' hgrow hnn
    gi_wp2
    exact HE.out
  case done =>
   rintro D xs W hD rfl ⟨⟨rv, hr1, hr2, hr3⟩, hmap, hb11, hbh, hbs, hB⟩ hK
   obtain ⟨KP, hKP⟩ : ∃ KP, KP = (stW hour (uptoL (bwd vs hgood) n)).2 := ⟨_, rfl⟩
   rw [<- hKP] at hr2 hr3
   have hkp2 : KP = (effFold hour vs.reverse).2 := by rw [hKP, stW, HVN.out, upto_bwd]
   have HRES := hI (show effL c.events hour = (KP.reverse).map (·.x) by
    have hs := HSND.out
    rw [HVS.out] at hs
    rw [<- HL.out, HVS.out, hkp2]
    exact effL_fold hs)
   have HMEM := hI (show ∀ v ∈ KP.reverse, v ∈ vs from fun v hv => by
    rw [List.mem_reverse, hkp2] at hv
    simpa using effFold_mem hour vs.reverse v hv)
   have hkl : KP.length <= n := by
    rw [hkp2, HVN.out]
    simpa using (effFold_len hour vs.reverse).1
   obtain ⟨kn, hkn⟩ : ∃ kn, kn = KP.length := ⟨_, rfl⟩
   rw [<- hkn] at hr2 hkl
   have HKN := hI hkn
   have HB := hI hB
   have HKD := hI hK
   have HR1 := hI hr1
   have HR2 := hI hr2
   clear hKP hkp2 hkn hmap hb11 hbh hbs hB
   rcases hr2.2 with ⟨rfl, h0⟩ | ⟨g, kc, cur, rfl, hg, hgb, hgle, hrest⟩
   ·have hkn0 : KP = [] := List.eq_nil_of_length_eq_zero (by rw [<- HKN.out]; exact h0)
    have c10 := hr1.cell
    have HREV := hI (fun W => AnyQ.slices_Reverse_empty Tryz.revEv none 0 W)
    clear hr1 hr2 hr3 hK h0
    gi_wp2
    go_wp2_with fail
    refine (HREV.out W).mono ?_
    rintro r w3 ⟨rfl, rfl⟩
    go_wp2_with fail
    refine ⟨by simp, .inl ⟨_, _, rfl, run_takeDeferred HKD.out, ?_⟩⟩
    exact ⟨_, results_tmp rfl _ _ _, none, 0, 0, rfl, by rw [HRES.out, hkn0]; exact IsEvs.nil _, HB.out.trans (belowK_b (w := w) (Nat.le_refl _) w3 D _ _ (by have := HXW.out.size; omega) HKD.out rfl rfl)⟩
   have c10 := hr1.cell
   have hgB : wo.heap.size ≠ g := fun e => hr1.not_row (by decide) hr2 (by rw [e]; rfl)
   have hgD : D ≠ g := fun e => by subst e; rw [HKD.out] at hgb; cases hgb
   have hbl := hr1.lt
   have HREV := hI (rev_calls (n := kn) (c := kc) HKN.out hgle (by omega) (by rw [<- HKN.out]; exact hr2))
   clear hr1 hr2 hr3 hK hrest hgb
   gi_wp2
   go_wp2_with fail
   refine HREV.out.mono ?_
   rintro r w3 ⟨rfl, hrows3, hc3, hsz3⟩
   have HR3 := hI (hc3.blk HR1.out (by simp only [List.mem_singleton]; exact hgB))
   have HK3 := hI (show w3.heap[D]? = some (.deferred (some [])) from hc3.blk HKD.out (by simp only [List.mem_singleton]; exact hgD))
   have HX3 := hI (show Ext w w3 from hc3.ext HB.out (fun y hy => by simp only [List.mem_singleton] at hy; omega))
   have HROW3 := hI hrows3
   obtain ⟨q0, qf⟩ := blk1 HR3.out
   clear hrows3 hc3 hsz3 c10
   go_wp2_with fail
   refine ⟨by simp, .inl ⟨_, _, rfl, run_takeDeferred HK3.out, ?_⟩⟩
   have hsub := putObj_sub (o' := .deferred none) HK3.out rfl
   have hxf : Ext w (w3.putObj D (.deferred none)) := Below.trans HX3.out (belowK_b (w := w) (Nat.le_refl _) w3 D _ _ (by have := HXW.out.size; omega) HK3.out rfl rfl)
   refine ⟨_, results_tmp rfl _ _ _, some ⟨g, 0, none⟩, kn, kc, rfl, ?_, hxf⟩
   rw [HRES.out]
   exact ⟨KP.reverse, HROW3.out.mono hsub, rfl, fun v hv => (HITS.out v (HMEM.out v hv)).ext hxf⟩
end Go.Proofs.YtpkljcgihobaiaaGreat
