/-
  Texts of the claim, joined: Deck, Args, LaidE, Level1, Level2, Level3.
-/
import Derived.Test.YtfjlglefodndjaaGreatDoorCe03
import Derived.IntWalk
import Derived.Test.YtfjlglefodndjaaGreatDoorCe01
import Derived.WalkKit
import Derived.Carry
import Derived.ChangeSlices
import Derived.SizedLaws
import Derived.Test.YtfjlglefodndjaaGreatDoorRows
import Derived.Deep.AppendLies
import Derived.Deep.RegionLaw
import Derived.RegionTactic
namespace Go.Proofs.YtfjlglefodndjaaGreatDoor
open Go.RowKit

theorem blk2 {w : World} {b : Nat} {v0 v1 : Value} {t : TypeId} (h : w.heap[b]? = some (.cells #[v0, v1] t (0, 0))) :
    w.cell? ⟨b, 0, none⟩ = some v0 ∧ w.cell? ⟨b, 1, none⟩ = some v1 ∧ (∀ j, w.frozen? ⟨b, j, none⟩ = false) :=
  ⟨blk_cell h 0, blk_cell h 1, fun j => blk_free h j⟩

/-- Numbers in memory. -/
def IntsAt (w : World) (a : Option Addr) (n : Nat) : Prop := ∀ i, i < n → ∃ b off z, a = some ⟨b, off, none⟩ ∧ w.cell? ⟨b, off + i, none⟩ = some (.int .i64 z)
/-- A deck in memory, over numbers that lie in w0. -/
def DeckAt (w0 w : World) (bd : Nat) : Prop := ∃ (la : Option Addr) (ln lc k : Nat), w.heap[bd]? = some (.cells #[.slice la ln lc, .int .i64 k] 58 (0, 0)) ∧ k ≤ ln ∧ ln ≤ 1000000000000000 ∧ IntsAt w0 la ln ∧ Ext w0 w ∧ w0.heap.size ≤ bd

theorem DeckAt.chg {w0 w w' : World} {bd : Nat} {N : List Nat} (h : DeckAt w0 w bd) (hc : Chg N w w') (hn : bd ∉ N) (h0 : ∀ x ∈ N, w0.heap.size ≤ x) : DeckAt w0 w' bd := by
  obtain ⟨la, ln, lc, k, hb, hk, hln, hL, hx, hbd⟩ := h
  exact ⟨la, ln, lc, k, hc.blk hb hn, hk, hln, hL, hc.ext hx h0, hbd⟩
theorem DeckAt.ext {w0 w w' : World} {bd : Nat} (h : DeckAt w0 w bd) (hx : Ext w w') : DeckAt w0 w' bd := h.chg (hx.chg []) (by simp) (by simp)

/-- A number is handed back; of what was there only the deck has changed. -/
def NextQ (lo hi : Int) (w0 : World) (bd : Nat) (w : World) (e : Ending) (w' : World) : Prop := ∃ r : Int, e = .returned (.int .i64 r) ∧ lo ≤ r ∧ r < hi ∧ DeckAt w0 w' bd ∧ Chg [bd] w w'

set_option maxRecDepth 100000 in
theorem next_calls {w0 w : World} {bd : Nat} (h : DeckAt w0 w bd) (n : Int) (hn : 0 < n) (hn2 : n ≤ 1000000000000000000) :
    Calls Tryz.prog 19 #[.pointer (some ⟨bd, 0, none⟩), .int .i64 n] w (NextQ 0 n w0 bd w) := by
  have HD := Lib.hid h
  obtain ⟨la, ln, lc, k, hb, hk, hln, hL, hx, hbd⟩ := h
  have HB := Lib.hid hb
  have hbw := blk_lt hb
  obtain ⟨c0, c1, cf⟩ := blk2 hb
  clear hb
  by_cases hlt : k < ln
  · obtain ⟨b, off, z, rfl, hz⟩ := hL k hlt
    have hz' := hx.cell hz
    have hzb : b ≠ bd := by have := block_lt hz; simp at this; omega
    have HL := Lib.hid hL
    have HX := Lib.hid hx
    have t1 : decide (ln ≤ k) = false := by simp; omega
    have t2 : ((k : Int) + 1 - 1) = k := by omega
    have t3 : (0 : Int) ≤ (k : Int) := by omega
    have t4 : (k : Int) < (ln : Int) := by omega
    clear hL hx hz HD
    go_enter Tryz.func19, Tryz.ntmps19
    go_wp2_with fail
    go_quiet (fail)
    go_wp2_with fail
    go_quiet (fail)
    go_wp2_with fail
    go_ret
    have hr : wrap64 (z.tmod n + n) = z.tmod n + n := by
      have a1 := Int.tmod_lt_of_pos z hn
      have a2 := Int.lt_tmod_of_pos z hn
      exact IntWalk.wrap64_in (z.tmod n + n) (by omega)
    rw [hr]
    have a1 := Int.tmod_lt_of_pos z hn
    have a2 := Int.tmod_lt_of_pos (z.tmod n + n) hn
    have a3 : 0 ≤ z.tmod n + n := by
      have := Int.lt_tmod_of_pos z hn
      omega
    have a4 := Int.tmod_nonneg n a3
    refine ⟨_, rfl, a4, a2, ⟨_, ln, lc, k + 1, ?_, by omega, hln, HL.out, ?_, hbd⟩, ?_⟩
    · have := heap_setCell_same (w.drewN 0) bd 1 _ _ (.int .i64 ((k : Int) + 1)) HB.out
      exact this
    · exact ((HX.out.drewN _).setAbove (by simpa using hbd) _).drewN _
    · exact (((Chg.refl [bd] w).drewN _).setCell (Or.inl (by simp)) _).drewN _
  · have t1 : decide (ln ≤ k) = true := by simp; omega
    go_enter Tryz.func19, Tryz.ntmps19
    go_wp2_with fail
    go_quiet (fail)
    go_wp2_with fail
    go_ret
    exact ⟨0, rfl, by omega, hn, HD.out.ext ((Ext.refl w).drewN _), (Chg.refl _ w).drewN _⟩

theorem range_calls {w0 w : World} {bd : Nat} (h : DeckAt w0 w bd) (lo hi : Int) (h1 : lo ≤ hi) (h2 : -100000000000000000 ≤ lo) (h3 : hi ≤ 100000000000000000) :
    Calls Tryz.prog 22 #[.pointer (some ⟨bd, 0, none⟩), .int .i64 lo, .int .i64 hi] w (NextQ lo (hi + 1) w0 bd w) := by
  go_enter Tryz.func22, Tryz.ntmps22
  go_wp2_with fail
  refine (next_calls h _ (by omega) (by omega)).mono ?_
  rintro e w1 ⟨r, rfl, hr0, hr1, hd, hc⟩
  go_wp2_with fail
  go_ret
  exact ⟨lo + r, rfl, by omega, by omega, hd, hc⟩

/-- A new deck. -/
def NewQ (w : World) (e : Ending) (w' : World) : Prop := ∃ bd, e = .returned (.pointer (some ⟨bd, 0, none⟩)) ∧ DeckAt w w' bd ∧ Ext w w' ∧ w.heap.size ≤ bd
theorem new_calls (la : Option Addr) (ln lc : Nat) (w : World) (h : IntsAt w la ln) (hl : ln ≤ 1000000000000000) : Calls Tryz.prog 10 #[.slice la ln lc] w (NewQ w) := by
  go_enter Tryz.func10, Tryz.ntmps10
  go_wp2_with fail
  go_ret
  exact ⟨w.heap.size, rfl, ⟨la, ln, lc, 0, alloc_new w _, by omega, hl, h, (Ext.refl w).alloc _, Nat.le_refl _⟩, (Ext.refl w).alloc _, Nat.le_refl _⟩
end Go.Proofs.YtfjlglefodndjaaGreatDoor

namespace Go.Proofs.YtfjlglefodndjaaGreatDoor
open Go.ChangeShapes Go.WideShapes Go.ChangeAt Go.RowKit

theorem laidOut : laidOutB Tryz.prog = true := by kernel_rfl
/-- The types can be read again. -/
def rowedB (P : Program) (ts : List TypeId) : Bool := ts.all fun t => P.readableRec t && decide (t < P.types.size)
theorem args_again {H : Type} {enc : TypeId × Value → H} {P : Program} (hl : laidOutB P = true) {W W' : World} (hb : Ext W W') : ∀ {ts : List TypeId} {vs : List Value} {ds : List (DataW H)} {ps : List MemPlace}, rowedB P ts = true → DataW.TrodAll enc P W 0 (fun _ => true) true ts vs ds ps → (∀ x ∈ ps, x.block < W.heap.size) → DataW.TrodAll enc P W' 0 (fun b => decide (b < W.heap.size)) true ts vs ds ps
  | [], [], [], _, _, h, _ => h
  | t :: ts, v :: vs, d :: ds, ps, hr, h, hlt => by
    obtain ⟨p, q, h1, h2, e⟩ := h
    simp only [rowedB, List.all_cons, Bool.and_eq_true, decide_eq_true_eq] at hr
    subst e
    exact ⟨p, q, Below.trod hl hr.1.1 hr.1.2 h1 hb (fun x hx => hlt x (by simp [hx])), args_again hl hb (by simpa [rowedB] using hr.2) h2 (fun x hx => hlt x (by simp [hx])), rfl⟩
  | [], _ :: _, _, _, _, h, _ => by simp [DataW.TrodAll] at h
  | [], [], _ :: _, _, _, h, _ => by simp [DataW.TrodAll] at h
  | _ :: _, [], _, _, _, h, _ => by simp [DataW.TrodAll] at h
  | _ :: _, _ :: _, [], _, _, h, _ => by simp [DataW.TrodAll] at h
set_option maxRecDepth 100000 in
/-- A law answers true and has only made memory: its arguments read as before. -/
theorem law_post2 {H : Type} {enc : TypeId × Value → H} {f : Func} {s : ChangeSpec} {W W' : World} {args : Array Value} {ds : List (DataW H)} {before : List MemPlace}
    (hW : DataW.Whole enc Tryz.prog f.params.toList s.vars false W args.toList ds [] before) (hv : s.vars = []) (hrt : f.resultTypes = #[4]) (hfn : (s.fn H (ds ++ [])).results = [.lit (.bool true)]) (hfa : (s.fn H (ds ++ [])).args = ds) (hfv : (s.fn H (ds ++ [])).vars = []) (hrw : rowedB Tryz.prog f.params.toList = true)
    (hx : Ext W W') : s.post enc Tryz.prog f false true false false W args (.bool true) W' := by
  have hW2 := hW
  obtain ⟨p, q, hA, hV, rfl, hfz, hnd⟩ := hW2
  rw [hv] at hV
  obtain ⟨_, rfl⟩ := trodVars_none hV
  have hlt : ∀ x ∈ p ++ [], x.block < W.heap.size := fun x hx => by simpa using hW.lt x hx
  simp only [List.append_nil] at *
  have hres : ∀ (b : Nat) (sp : Nat → Bool) (hd : Bool), DataW.TrodAll enc Tryz.prog W' b sp hd f.resultTypes.toList ((Value.bool true).resultList f.resultTypes.size) (s.fn H (ds ++ [])).results [] := by
    intro b sp hd
    rw [hrt, List.append_nil, hfn]
    exact trodAll_cons_mk (shut_bool uB _) trodAll_mk0
  refine ⟨ds, [], p, [], p, [], hW, hres _ _ _, by rw [List.append_nil, hfa]; exact args_again laidOut hx hrw hA hlt, ?_, World.keptBut_mono (fun p hp => hp) (Below.frame hx _), fun h => by cases h⟩
  rw [hv, List.append_nil, hfv]
  rfl
theorem uIs : Tryz.prog.underlying 30 = some (.slice 3) := by kernel_rfl
theorem bInt : Tryz.prog.bytesOf 3 = 8 := by kernel_rfl
set_option maxRecDepth 100000 in
/-- An argument of type []int. -/
theorem ints_arg {H : Type} {enc : TypeId × Value → H} {W : World} {base : Nat} {v : Value} {d : DataW H} {p : List MemPlace} {ts : List TypeId} {ds : List (DataW H)} {j : Nat} (hval : Value.okWide Tryz.prog W .any base 30 v) (h : DataW.Trod enc Tryz.prog W 0 (fun _ => true) true 30 v d p)
    (hs : (DataW.weightsEach Tryz.prog ts ds).all (· ≤ reachBytes) = true) (ht : ts[j]? = some 30) (hd : ds[j]? = some d) : ∃ a n c, v = .slice a n c ∧ IntsAt W a n ∧ n ≤ 1000000000000000 := by
  obtain ⟨a, n, c, rfl⟩ := okWide_slice uIs hval
  refine ⟨a, n, c, rfl, ?_⟩
  obtain ⟨fuel, hf⟩ := h
  rcases open_ints uIs uI cI hf with ⟨hcs, hx⟩ | ⟨ad, len, cap, zs, hcs, _, hl, hm, hz, hx, hcell, hw⟩
  · simp [Value.cells] at hcs
    obtain ⟨rfl, rfl, rfl⟩ := hcs
    exact ⟨fun i hi => by omega, by omega⟩
  · simp [Value.cells] at hcs
    obtain ⟨rfl, rfl, rfl⟩ := hcs
    simp only [Prod.mk.injEq] at hx
    obtain ⟨rfl, rfl⟩ := hx
    simp only [if_true] at hz
    have hb := sized_slice hs ht hd uIs
    rw [bInt] at hb
    simp only [lits, List.length_map, List.length_take, List.length_drop] at hb
    have hr := reachBytes_lt
    refine ⟨fun i hi => ?_, by omega⟩
    obtain ⟨b, off, spot⟩ := ad
    have h0 := hcell 0 (by omega)
    have hsp : spot = none := by
      cases spot with
      | none => rfl
      | some x =>
        exfalso
        simp only [Addr.add, if_true, World.cell?] at h0
        split at h0 <;> simp at h0
    subst hsp
    have := hcell i (by omega)
    refine ⟨b, off, zs.getD i 0, rfl, ?_⟩
    rw [← this]
    congr 1
    unfold Addr.add
    split <;> simp_all
end Go.Proofs.YtfjlglefodndjaaGreatDoor

namespace Go.Proofs.YtfjlglefodndjaaGreatDoor
open Go.ChangeShapes Go.WideShapes Go.ChangeAt Go.WideMaps Go.WideElems Go.RowKit

set_option maxRecDepth 100000 in
/-- What the condition on the package's table gives. -/
theorem hasOps_of_laid {W : World} (h : laidMetH Tryz.prog Rows.checkExprRow.laid W) : HasOps W := by
  rw [MakeChecks.laidMetH_plain _ _ _ (by kernel_rfl)] at h
  obtain ⟨ps, ⟨g1, t1, cs1, f1, p1, q1, hg1, ht1, hv1, hd1, _, _⟩, _, _⟩ := h
  obtain rfl := Option.some.inj (gOps.symm.trans hg1)
  obtain rfl := Option.some.inj (tOps.symm.trans ht1)
  obtain ⟨xs, m, rfl, hx, hlen, hn, hel⟩ := DataW.trod_array uOps hd1
  simp only [Prod.mk.injEq] at hx
  have hx1 := hx.1
  intro k hk
  have hD : (xs.map (·.1))[k]? = some (.agg [.lit (.string (opWord k).data.toList), .lit (.bool (opNamed k)), .lit (.int .i64 (opLeast k)), .lit (.int .i64 (opMost k)), .lit (.int .i64 (opBinds k))]) := by
    unfold Rows.laid_treaty_syntax_operators at hx1
    injection hx1 with hx1
    rw [← hx1]
    have hk' : k = 0 ∨ k = 1 ∨ k = 2 ∨ k = 3 ∨ k = 4 ∨ k = 5 ∨ k = 6 ∨ k = 7 ∨ k = 8 := by omega
    rcases hk' with rfl | rfl | rfl | rfl | rfl | rfl | rfl | rfl | rfl <;> rfl
  rw [List.getElem?_map] at hD
  have hek := hel k hk
  cases hy : xs[k]? with
  | none => rw [hy] at hD; cases hD
  | some y =>
    rw [hy] at hD hek
    simp only [Option.map_some, Option.some.injEq] at hD
    rw [cOp] at hek
    have hc := op_cells hek hD
    have key : ∀ j, j < 5 → W.cell? ⟨0, k * 5 + j, none⟩ = ([.string (opWord k), .bool (opNamed k), .int .i64 (opLeast k), .int .i64 (opMost k), .int .i64 (opBinds k)] : List Value)[j]? := by
      intro j hj
      have e1 : (⟨(opWord k).data.toList.toArray⟩ : ByteArray) = opWord k := by simp
      rw [World.var?_cell hg1 hv1 (k * 5 + j), ← e1, ← hc, List.getElem?_take, if_pos hj, List.getElem?_drop]
      simp
    have k0 := key 0 (by omega)
    rw [Nat.add_zero] at k0
    exact ⟨k0, key 1 (by omega), key 2 (by omega), key 3 (by omega), key 4 (by omega)⟩
end Go.Proofs.YtfjlglefodndjaaGreatDoor

namespace Go.Proofs.YtfjlglefodndjaaGreatDoor
open Go.RowKit

structure Lvl where
  nots : Nat
  ands : List Part
  ors : List Part
structure LvlV where
  nots : Nat
  va : Value
  vo : Value
def LvlV.cells (l : LvlV) : List Value := [.int .i64 l.nots, l.va, l.vo]
def LvlV.rows (l : LvlV) : List Nat := rowOf l.va ++ rowOf l.vo
def sumPot : List Part → Nat
  | [] => 0
  | p :: r => p.size + 1 + sumPot r
def Lvl.pot (l : Lvl) : Nat := l.nots + sumPot l.ands + sumPot l.ors
def potAll : List Lvl → Nat
  | [] => 0
  | l :: r => l.pot + potAll r

end Go.Proofs.YtfjlglefodndjaaGreatDoor

namespace Go.Proofs.YtfjlglefodndjaaGreatDoor
open Go.RowKit

theorem flatMap_snoc (l : List LvlV) (x : LvlV) : (l ++ [x]).flatMap LvlV.cells = l.flatMap LvlV.cells ++ x.cells := by simp
theorem rows_snoc (l : List LvlV) (x : LvlV) : (l ++ [x]).flatMap LvlV.rows = l.flatMap LvlV.rows ++ x.rows := by simp
theorem set_last (l : List LvlV) (x : LvlV) (j : Nat) (u : Value) : ((l ++ [x]).flatMap LvlV.cells).set (l.length * 3 + j) u = l.flatMap LvlV.cells ++ x.cells.set j u := by
  rw [flatMap_snoc]
  have hl := length_flatMap_of LvlV.cells 3 (fun _ => rfl) l
  rw [List.set_append_right _ _ (by omega), hl]
  congr 1
  congr 1
  omega

end Go.Proofs.YtfjlglefodndjaaGreatDoor

namespace Go.Proofs.YtfjlglefodndjaaGreatDoor
open Go.RowKit

/-- append, as one step of a region that draws its order. -/
theorem step_append1 {t e : TypeId} {z : Value} {size bytes : Nat} (E : ElemT t e z size bytes) {ops : Array Oper} {o : Oper} {a : Act} {K : Act → World → Prop} {Q : Exit → Act → World → Prop} {Z : Prop} {W : World}
    (hgd : o.guard = none) (s x : Operand) (ho : o.op = .call { callee := .builtin .append, args := #[s, x], argTypes := #[t, t] }) (base : Nat) (v : Value) (n : Nat) (xs : List Value) (hs : a.eval s = v)
    (B m c : Nat) (news : List Value) (hx : a.eval x = .slice (some ⟨B, 0, none⟩) m c) (hl : news.length = m * size) (h1 : ∀ u ∈ news, u.oneCell' = true) (hm : 0 < m) (hn : n + m ≤ 100000000) (hb : bytes ≤ 1000) (H : Nat)
    (hown : W.ownsRow base e size v n xs) (hnews : ∀ j (h : j < news.length), W.cell? ⟨B, j, none⟩ = some news[j]) (hbase : base ≤ W.heap.size) (hH : W.heap.size = H)
    (h : ∀ g cap w', w'.ownsRow base e size (.slice (some ⟨g, 0, none⟩) (n + m) cap) (n + m) (xs ++ news) → W.grownBy w' v.ownBlock → (v.ownBlock = some g ∨ g = H) → g < w'.heap.size → K (a.put o.dst (.slice (some ⟨g, 0, none⟩) (n + m) cap)) w') :
    if Region.wanted o (yielded ops a.tmps) = true then Oper.wp Tryz.prog o a W K Q else Z := by
  obtain ⟨i, hi, hz, hsz, hby⟩ := info_parts E.info
  refine step_append_lies W hgd s x t ho base e i z size bytes E.ht hi hz hsz hby E.hzs E.hsz v n xs hs hown ⟨B, 0, none⟩ m c news hx hl ?_ h1 hm (by simp only [maxLen]; omega) ?_ hbase H hH h
  · intro j u hu
    obtain ⟨hj, rfl⟩ := List.getElem?_eq_some_iff.1 hu
    have : (⟨B, 0, none⟩ : Addr).add j = ⟨B, j, none⟩ := by unfold Addr.add; split <;> simp_all
    rw [this]
    exact hnews j hj
  · calc (n + m) * bytes ≤ 100000000 * 1000 := Nat.mul_le_mul hn hb
      _ ≤ 140737488355328 := by omega

def itF : Nat → Part → Part
  | 0, p => p
  | n + 1, p => composedF 6 [itF n p]
theorem itF_size (n : Nat) (p : Part) : (itF n p).size = p.size + n := by
  induction n with
  | zero => rfl
  | succ n ih => rw [itF, composedF]; split <;> simp [sumSize, ih] <;> omega
theorem itF_tidy (n : Nat) (p : Part) (h : p.depth ≤ p.size) : (itF n p).depth ≤ (itF n p).size := by
  induction n with
  | zero => exact h
  | succ n ih => rw [itF, composedF]; split <;> simp [sumSize, maxDepth] <;> omega

theorem potAll_snoc (l : List Lvl) (t : Lvl) : potAll (l ++ [t]) = potAll l + t.pot := by
  induction l with
  | nil => simp [potAll]
  | cons a r ih => simp [potAll, ih]; omega
theorem sumPot_snoc (l : List Part) (p : Part) : sumPot (l ++ [p]) = sumPot l + (p.size + 1) := by
  induction l with
  | nil => simp [sumPot]
  | cons a r ih => simp [sumPot, ih]; omega
theorem sumPot_eq (l : List Part) : sumPot l = sumSize l + l.length := by
  induction l with
  | nil => simp [sumPot, sumSize]
  | cons a r ih => simp [sumPot, sumSize, ih]; omega

theorem Chg.mono {N N' : List Nat} {a b : World} (h : Chg N a b) (hN : ∀ y ∈ N, y ∈ N') : Chg N' a b := ⟨h.os, h.tape, h.output, h.size, fun k hk hn => h.block k hk (fun h' => hn (hN k h'))⟩
theorem set_tail (l : List LvlV) (C : List Value) (j : Nat) (u : Value) : (l.flatMap LvlV.cells ++ C).set (l.length * 3 + j) u = l.flatMap LvlV.cells ++ C.set j u := by
  have hl := length_flatMap_of LvlV.cells 3 (fun _ => rfl) l
  rw [List.set_append_right _ _ (by omega), hl]
  congr 1
  congr 1
  omega

theorem PartsR.snoc {w : World} {ps : List Part} {vs : List PartV} {p : Part} {v : PartV} (h : PartsR w ps vs) (hp : PartR w p v) : PartsR w (ps ++ [p]) (vs ++ [v]) := by
  refine ⟨by simp [h.1], fun i h1 h2 => ?_⟩
  by_cases hi : i < ps.length
  · rw [List.getElem_append_left hi, List.getElem_append_left (by rw [← h.1]; exact hi)]
    exact h.2 i hi _
  · have e : i = ps.length := by simp at h1; omega
    subst e
    rw [List.getElem_append_right (Nat.le_refl _), List.getElem_append_right (by rw [h.1]; exact Nat.le_refl _)]
    simpa using hp

theorem Chg.grown {N : List Nat} {a w w' : World} {row : Option Nat} (h : Chg N a w) (hg : w.grownBy w' row) (hr : ∀ y, row = some y → y ∈ N ∨ a.heap.size ≤ y) : Chg N a w' :=
  ⟨hg.os.trans h.os, hg.tape.trans h.tape, hg.output.trans h.output, Nat.le_trans h.size hg.size, fun y hy hn =>
    (hg.block y (Nat.lt_of_lt_of_le hy h.size) (fun e => by rcases hr y e.symm with h' | h'; exact hn h'; omega)).trans (h.block y hy hn)⟩

end Go.Proofs.YtfjlglefodndjaaGreatDoor
