/-
  Texts of the claim, joined: ExArg2, ClaArg.
-/
import Derived.Test.YtfjlglefodndjaaGreatDoorCc28
import Derived.Test.YtfjlglefodndjaaGreatDoorCc09
import Derived.Test.YtfjlglefodndjaaGreatDoorCc14
import Derived.Test.YtfjlglefodndjaaGreatDoorCc13
namespace Go.Proofs.YtfjlglefodndjaaGreatDoor
open Go.ChangeShapes Go.WideShapes Go.ChangeAt Go.RowKit

/-! An argument of type Expr, with bounds on the numbers of arguments. -/
theorem bEx : Tryz.prog.bytesOf 29 = 88 := by kernel_rfl
theorem ex_arg2 {H : Type} {enc : TypeId × Value → H} {W : World} : ∀ (fuel : Nat) (cs : List Value) (x : DataW H × List MemPlace), DataW.trod enc Tryz.prog W 0 (fun _ => true) true fuel 29 cs = some x → (x.1.weights Tryz.prog 29).all (· ≤ reachBytes) = true →
    ∃ (e : Ex) (v : ExV), cs = v.cells ∧ IsEx W e v.val ∧ e.fits ∧ e.few ∧ e.slim := by
  intro fuel
  induction fuel using Nat.strongRecOn with
  | _ fuel ih =>
    intro cs x h hw
    obtain ⟨fs, uE, are⟩ := uEx
    obtain ⟨xs, n, rfl, rfl, hlen, hxl, hf⟩ := DataW.trod_struct uE h
    have e6 : fs.size = 6 := by have := congrArg List.length are; simpa using this
    rw [e6] at hxl
    rw [cEx] at hlen
    obtain ⟨c0, c1, c2, c3, c4, c5, rfl⟩ := list6 cs hlen
    obtain ⟨x0, x1, x2, x3, x4, x5, rfl⟩ := list6 xs hxl
    obtain ⟨f0, g0, t0, o0⟩ := op_field 0 _ _ (by rw [are]; rfl)
    obtain ⟨f1, g1, t1, o1⟩ := op_field 1 _ _ (by rw [are]; rfl)
    obtain ⟨f2, g2, t2, o2⟩ := op_field 2 _ _ (by rw [are]; rfl)
    obtain ⟨f3, g3, t3, o3⟩ := op_field 3 _ _ (by rw [are]; rfl)
    obtain ⟨f4, g4, t4, o4⟩ := op_field 4 _ _ (by rw [are]; rfl)
    obtain ⟨f5, g5, t5, o5⟩ := op_field 5 _ _ (by rw [are]; rfl)
    have r0 := hf 0 f0 g0
    have r1 := hf 1 f1 g1
    have r2 := hf 2 f2 g2
    have r3 := hf 3 f3 g3
    have r4 := hf 4 f4 g4
    have r5 := hf 5 f5 g5
    rw [t0, o0, cI] at r0
    rw [t1, o1, cS] at r1
    rw [t2, o2, cSs] at r2
    rw [t3, o3, cI] at r3
    rw [t4, o4, cI] at r4
    rw [t5, o5, cExs] at r5
    simp only [List.drop_zero, List.drop_succ_cons, List.take_succ_cons, List.take_zero, List.getElem?_cons_zero, List.getElem?_cons_succ] at r0 r1 r2 r3 r4 r5
    have hty : fs.toList.map (·.type) = [3, 9, 26, 3, 3, 27] := by
      have := congrArg (List.map Prod.fst) are
      rw [List.map_map] at this
      exact this
    simp only [DataW.weights, uE, hty, List.map_cons, List.map_nil, DataW.weightsEach, List.all_append, Bool.and_eq_true] at hw
    obtain ⟨_, w1, w2, _, _, w5, _⟩ := hw
    obtain ⟨op, a0, _, _⟩ := DataW.trod_int uI r0
    obtain ⟨s, a1, b1, _⟩ := DataW.trod_string uS r1
    obtain ⟨lo, a3, _, _⟩ := DataW.trod_int uI r3
    obtain ⟨hi, a4, _, _⟩ := DataW.trod_int uI r4
    simp only [List.cons.injEq, and_true] at a0 a1 a3 a4
    subst a0 a1 a3 a4
    have hr := reachBytes_lt
    have hss : s.size ≤ 1000000000000000 := by
      rw [b1] at w1
      simp [DataW.weights] at w1
      omega
    obtain ⟨words, aw, nw, cw, rfl, hws, hwz, hwl⟩ := strs_arg r2 w2
    obtain ⟨evs, a, n', c, rfl, q1, q2, q3⟩ := rows_arg (Q := fun v : ExV => ∃ e, IsEx W e v.val ∧ e.fits ∧ e.few ∧ e.slim) ExV.cells exV_len (by omega) uExs cEx bEx (by omega) (fun k hk cs x g1 g2 => by
      obtain ⟨e, v, g3, g4⟩ := ih k (by omega) cs x g1 g2
      exact ⟨v, g3, e, g4⟩) r5 w5
    obtain ⟨l, hl1, hl2⟩ := list_of evs.length (Q := fun i e => ∀ h : i < evs.length, IsEx W e (evs[i]'h).val ∧ e.fits ∧ e.few ∧ e.slim) (fun i hi => by
      obtain ⟨e, he⟩ := q2 _ (List.getElem_mem hi)
      exact ⟨e, fun _ => he⟩)
    have hq : ∀ y ∈ l, y.fits ∧ y.few ∧ y.slim := fun y hy => by
      obtain ⟨i, hi, rfl⟩ := List.getElem_of_mem hy
      exact (hl2 i hi (by omega)).2
    refine ⟨.mk op s words lo hi l, ⟨op, s, aw, nw, cw, lo, hi, a, n', c⟩, rfl, IsEx.mk hws (by rw [hl1]; exact q1.1) q1.2.1 q1.2.2.1 ?_, fits_mk' hss hwz fun y hy => (hq y hy).1, few_mk' hwl fun y hy => (hq y hy).2.1, slim_mk (by rw [hl1, ← q1.1]; exact q3) fun y hy => (hq y hy).2.2⟩
    cases hll : l with
    | nil => unfold ExsD; trivial
    | cons z r =>
      rw [← hll]
      have hpos : 0 < evs.length := by rw [← hl1, hll]; simp
      obtain ⟨b, off, rfl, _⟩ := q1.2.2.2 0 hpos
      refine ExsD.of l off evs hl1 fun i h3 h4 => ⟨fun j hj => ?_, (hl2 i h3 h4).1⟩
      obtain ⟨b', off', e', hc⟩ := q1.2.2.2 i h4
      simp only [Option.some.injEq, Addr.mk.injEq, and_true] at e'
      obtain ⟨rfl, rfl⟩ := e'
      have hj' : j < (evs[i].cells).length := by rw [exV_len]; exact hj
      rw [hc j hj', List.getElem?_eq_getElem hj']
set_option maxRecDepth 100000 in
/-- An argument of type Expr. -/
theorem expr_arg2 {H : Type} {enc : TypeId × Value → H} {W : World} {v : Value} {d : DataW H} {p : List MemPlace} {ts : List TypeId} {ds : List (DataW H)} {j : Nat} (h : DataW.Trod enc Tryz.prog W 0 (fun _ => true) true 29 v d p) {base : Nat} (hval : Value.okWide Tryz.prog W .any base 29 v)
    (hs : (DataW.weightsEach Tryz.prog ts ds).all (· ≤ reachBytes) = true) (ht : ts[j]? = some 29) (hd : ds[j]? = some d) : ∃ (e : Ex), IsEx W e v ∧ e.fits ∧ e.few ∧ e.slim := by
  obtain ⟨fuel, hf⟩ := h
  have hw : (d.weights Tryz.prog 29).all (· ≤ reachBytes) = true := by
    rw [List.all_eq_true]
    intro n hn
    exact List.all_eq_true.1 hs n (DataW.weights_mem_each ht hd n hn)
  obtain ⟨e, x, h1, h2, h3, h4⟩ := ex_arg2 fuel _ _ hf hw
  refine ⟨e, ?_, h3, h4⟩
  obtain ⟨fs, uE, _⟩ := uEx
  obtain ⟨cs, rfl, _⟩ := okWide_struct uE hval
  simp only [Value.cells] at h1
  have : (Value.agg cs) = x.val := by
    have e : cs = x.cells.toArray := by rw [← h1]
    rw [e]; rfl
  rw [this]; exact h2
end Go.Proofs.YtfjlglefodndjaaGreatDoor

namespace Go.Proofs.YtfjlglefodndjaaGreatDoor
open Go.ChangeShapes Go.WideShapes Go.ChangeAt Go.RowKit

/-! Arguments of type []api.Clause. -/
theorem wbFields_are : (Tryz.prog.underlying 77).bind (fun u => match u with | .struct fs => some (fs.toList.map (fun f => (f.type, f.offset))) | _ => none) = some [(9, 0), (29, 1), (36, 7)] := by kernel_rfl
theorem uWb : ∃ fs : Array Field, Tryz.prog.underlying 77 = some (.struct fs) ∧ fs.toList.map (fun f => (f.type, f.offset)) = [(9, 0), (29, 1), (36, 7)] := by
  have h := wbFields_are
  generalize Tryz.prog.underlying 77 = U at *
  match U, h with
  | some (.struct fs), h => exact ⟨fs, rfl, by simpa using h⟩
theorem clFields_are : (Tryz.prog.underlying 38).bind (fun u => match u with | .struct fs => some (fs.toList.map (fun f => (f.type, f.offset))) | _ => none) = some [(3, 0), (9, 1), (29, 2), (36, 8), (3, 9)] := by kernel_rfl
theorem uCl : ∃ fs : Array Field, Tryz.prog.underlying 38 = some (.struct fs) ∧ fs.toList.map (fun f => (f.type, f.offset)) = [(3, 0), (9, 1), (29, 2), (36, 8), (3, 9)] := by
  have h := clFields_are
  generalize Tryz.prog.underlying 38 = U at *
  match U, h with
  | some (.struct fs), h => exact ⟨fs, rfl, by simpa using h⟩
theorem cWb : Tryz.prog.cellsOf 77 = 8 := by kernel_rfl
theorem cWbs : Tryz.prog.cellsOf 36 = 1 := by kernel_rfl
theorem uWbs : Tryz.prog.underlying 36 = some (.slice 77) := by kernel_rfl
theorem bWb : Tryz.prog.bytesOf 77 = 128 := by kernel_rfl
theorem cCl : Tryz.prog.cellsOf 38 = 10 := by kernel_rfl
theorem uCls : Tryz.prog.underlying 25 = some (.slice 38) := by kernel_rfl
theorem bCl : Tryz.prog.bytesOf 38 = 144 := by kernel_rfl
theorem list8 {α : Type} (l : List α) (h : l.length = 8) : ∃ a b c d e f g i, l = [a, b, c, d, e, f, g, i] := by
  rcases l with _ | ⟨a, _ | ⟨b, _ | ⟨c, _ | ⟨d, _ | ⟨e, _ | ⟨f, _ | ⟨g, _ | ⟨i, _ | ⟨j, r⟩⟩⟩⟩⟩⟩⟩⟩⟩ <;> simp at h
  exact ⟨a, b, c, d, e, f, g, i, rfl⟩
theorem list3 {α : Type} (l : List α) (h : l.length = 3) : ∃ a b c, l = [a, b, c] := by
  rcases l with _ | ⟨a, _ | ⟨b, _ | ⟨c, _ | ⟨d, r⟩⟩⟩⟩ <;> simp at h
  exact ⟨a, b, c, rfl⟩
theorem list10 {α : Type} (l : List α) (h : l.length = 10) : ∃ a b c d e f g i j k, l = [a, b, c, d, e, f, g, i, j, k] := by
  rcases l with _ | ⟨a, _ | ⟨b, _ | ⟨c, _ | ⟨d, _ | ⟨e, _ | ⟨f, _ | ⟨g, _ | ⟨i, _ | ⟨j, _ | ⟨k, _ | ⟨m, r⟩⟩⟩⟩⟩⟩⟩⟩⟩⟩⟩ <;> simp at h
  exact ⟨a, b, c, d, e, f, g, i, j, k, rfl⟩
theorem wbs_rows {W : World} {vs : List WbV} {a : Option Addr} {n c : Nat} (h : IsRows W 8 WbV.cells vs a n c) {l : List Wb} (hl : l.length = vs.length) (hw : ∀ i (h1 : i < l.length) (h2 : i < vs.length), IsWb W l[i] vs[i]) : WbsD W l a := by
  cases hll : l with
  | nil => unfold WbsD; trivial
  | cons z r =>
    rw [← hll]
    have hpos : 0 < vs.length := by rw [← hl, hll]; simp
    obtain ⟨b, off, rfl, _⟩ := h.2.2.2 0 hpos
    refine WbsD.of l off vs hl fun i h3 h4 => ?_
    obtain ⟨b', off', e', hc⟩ := h.2.2.2 i h4
    simp only [Option.some.injEq, Addr.mk.injEq, and_true] at e'
    obtain ⟨rfl, rfl⟩ := e'
    obtain ⟨g1, g2, g3, g4, g5, g6⟩ := hw i h3 h4
    exact ⟨g1, fun j hj => hc j hj, g2, g3, g4, g5, g6⟩
/-- What write-backs in a row are. -/
theorem wbs_read {W : World} {vs : List WbV} {a : Option Addr} {n c : Nat} (h : IsRows W 8 WbV.cells vs a n c) (hq : ∀ v ∈ vs, ∃ x : Wb, IsWb W x v ∧ x.fit) : ∃ l : List Wb, n = l.length ∧ n ≤ c ∧ OkAddr a c ∧ WbsD W l a ∧ wbFits l := by
  obtain ⟨l, hl1, hl2⟩ := list_of vs.length (Q := fun i e => ∀ h : i < vs.length, IsWb W e (vs[i]'h) ∧ e.fit) (fun i hi => by
    obtain ⟨e, he⟩ := hq _ (List.getElem_mem hi)
    exact ⟨e, fun _ => he⟩)
  refine ⟨l, by rw [hl1]; exact h.1, h.2.1, h.2.2.1, wbs_rows h hl1 fun i h1 h2 => (hl2 i h1 h2).1, wbFits_of l fun x hx => ?_⟩
  obtain ⟨i, hi, rfl⟩ := List.getElem_of_mem hx
  exact (hl2 i hi (by omega)).2
/-- A write-back that came in. -/
theorem wb_arg {H : Type} {enc : TypeId × Value → H} {W : World} : ∀ (fuel : Nat) (cs : List Value) (x : DataW H × List MemPlace), DataW.trod enc Tryz.prog W 0 (fun _ => true) true fuel 77 cs = some x → (x.1.weights Tryz.prog 77).all (· ≤ reachBytes) = true →
    ∃ v : WbV, cs = v.cells ∧ ∃ y : Wb, IsWb W y v ∧ y.fit := by
  intro fuel
  induction fuel using Nat.strongRecOn with
  | _ fuel ih =>
    intro cs x h hw
    obtain ⟨fs, uE, are⟩ := uWb
    obtain ⟨xs, n, rfl, rfl, hlen, hxl, hf⟩ := DataW.trod_struct uE h
    have e6 : fs.size = 3 := by have := congrArg List.length are; simpa using this
    rw [e6] at hxl
    rw [cWb] at hlen
    obtain ⟨c0, c1, c2, c3, c4, c5, c6, c7, rfl⟩ := list8 cs hlen
    obtain ⟨x0, x1, x2, rfl⟩ := list3 xs hxl
    obtain ⟨f0, g0, t0, o0⟩ := op_field 0 _ _ (by rw [are]; rfl)
    obtain ⟨f1, g1, t1, o1⟩ := op_field 1 _ _ (by rw [are]; rfl)
    obtain ⟨f2, g2, t2, o2⟩ := op_field 2 _ _ (by rw [are]; rfl)
    have r0 := hf 0 f0 g0
    have r1 := hf 1 f1 g1
    have r2 := hf 2 f2 g2
    rw [t0, o0, cS] at r0
    rw [t1, o1, cEx] at r1
    rw [t2, o2, cWbs] at r2
    simp only [List.drop_zero, List.drop_succ_cons, List.take_succ_cons, List.take_zero, List.getElem?_cons_zero, List.getElem?_cons_succ] at r0 r1 r2
    have hty : fs.toList.map (·.type) = [9, 29, 36] := by
      have := congrArg (List.map Prod.fst) are
      rw [List.map_map] at this
      exact this
    rw [DataW.weights, uE] at hw
    simp only [hty, List.map_cons, List.map_nil, DataW.weightsEach, List.all_append, Bool.and_eq_true] at hw
    obtain ⟨w0, w1, w2, _⟩ := hw
    obtain ⟨s, a0, b0, _⟩ := DataW.trod_string uS r0
    simp only [List.cons.injEq, and_true] at a0
    subst a0
    have hr := reachBytes_lt
    have hss : s.size ≤ 1000000000000000 := by
      rw [b0] at w0
      simp [DataW.weights] at w0
      omega
    obtain ⟨e, ev, he, hx1, hx2, hx3, hx4⟩ := ex_arg2 _ _ _ r1 w1
    obtain ⟨vs, a, n', c, rfl, q1, q2, q3⟩ := rows_arg (Q := fun v : WbV => ∃ x, IsWb W x v ∧ x.fit) WbV.cells WbV.len (by omega) uWbs cWb bWb (by omega) (fun k hk cs x g1 g2 => ih k (by omega) cs x g1 g2) r2 w2
    obtain ⟨l, hn, hnc, hoa, hd, hfit⟩ := wbs_read q1 q2
    simp only [ExV.cells, List.cons.injEq, and_true] at he
    obtain ⟨rfl, rfl, rfl, rfl, rfl, rfl⟩ := he
    exact ⟨⟨s, ev, a, n', c⟩, rfl, .mk s e l, ⟨rfl, hx1, hn, hnc, hoa, hd⟩, hss, hx2, hx3, hx4, by show l.length ≤ _; omega, hfit⟩
/-- A clause that came in. -/
theorem cla_arg {H : Type} {enc : TypeId × Value → H} {W : World} (fuel : Nat) (cs : List Value) (x : DataW H × List MemPlace) (h : DataW.trod enc Tryz.prog W 0 (fun _ => true) true fuel 38 cs = some x) (hw : (x.1.weights Tryz.prog 38).all (· ≤ reachBytes) = true) :
    ∃ v : ClV, cs = v.cells ∧ ∃ y : Cla, IsCla W y v ∧ y.fit := by
  obtain ⟨fs, uE, are⟩ := uCl
  obtain ⟨xs, n, rfl, rfl, hlen, hxl, hf⟩ := DataW.trod_struct uE h
  have e6 : fs.size = 5 := by have := congrArg List.length are; simpa using this
  rw [e6] at hxl
  rw [cCl] at hlen
  obtain ⟨c0, c1, c2, c3, c4, c5, c6, c7, c8, c9, rfl⟩ := list10 cs hlen
  obtain ⟨x0, x1, x2, x3, x4, rfl⟩ := list5 xs hxl
  obtain ⟨f0, g0, t0, o0⟩ := op_field 0 _ _ (by rw [are]; rfl)
  obtain ⟨f1, g1, t1, o1⟩ := op_field 1 _ _ (by rw [are]; rfl)
  obtain ⟨f2, g2, t2, o2⟩ := op_field 2 _ _ (by rw [are]; rfl)
  obtain ⟨f3, g3, t3, o3⟩ := op_field 3 _ _ (by rw [are]; rfl)
  obtain ⟨f4, g4, t4, o4⟩ := op_field 4 _ _ (by rw [are]; rfl)
  have r0 := hf 0 f0 g0
  have r1 := hf 1 f1 g1
  have r2 := hf 2 f2 g2
  have r3 := hf 3 f3 g3
  have r4 := hf 4 f4 g4
  rw [t0, o0, cI] at r0
  rw [t1, o1, cS] at r1
  rw [t2, o2, cEx] at r2
  rw [t3, o3, cWbs] at r3
  rw [t4, o4, cI] at r4
  simp only [List.drop_zero, List.drop_succ_cons, List.take_succ_cons, List.take_zero, List.getElem?_cons_zero, List.getElem?_cons_succ] at r0 r1 r2 r3 r4
  have hty : fs.toList.map (·.type) = [3, 9, 29, 36, 3] := by
    have := congrArg (List.map Prod.fst) are
    rw [List.map_map] at this
    exact this
  rw [DataW.weights, uE] at hw
  simp only [hty, List.map_cons, List.map_nil, DataW.weightsEach, List.all_append, Bool.and_eq_true] at hw
  obtain ⟨_, w1, w2, w3, _⟩ := hw
  obtain ⟨kind, a0, _, _⟩ := DataW.trod_int uI r0
  obtain ⟨s, a1, b1, _⟩ := DataW.trod_string uS r1
  obtain ⟨am, a4, _, _⟩ := DataW.trod_int uI r4
  simp only [List.cons.injEq, and_true] at a0 a1 a4
  subst a0 a1 a4
  have hr := reachBytes_lt
  have hss : s.size ≤ 1000000000000000 := by
    rw [b1] at w1
    simp [DataW.weights] at w1
    omega
  obtain ⟨e, ev, he, hx1, hx2, hx3, hx4⟩ := ex_arg2 _ _ _ r2 w2
  obtain ⟨vs, a, n', c, rfl, q1, q2, q3⟩ := rows_arg (Q := fun v : WbV => ∃ x, IsWb W x v ∧ x.fit) WbV.cells WbV.len (by omega) uWbs cWb bWb (by omega) (fun k hk cs x g1 g2 => wb_arg k cs x g1 g2) r3 w3
  obtain ⟨l, hn, hnc, hoa, hd, hfit⟩ := wbs_read q1 q2
  simp only [ExV.cells, List.cons.injEq, and_true] at he
  obtain ⟨rfl, rfl, rfl, rfl, rfl, rfl⟩ := he
  exact ⟨⟨kind, s, ev, a, n', c, am⟩, rfl, ⟨kind, s, e, l, am⟩, ⟨rfl, rfl, hx1, hn, hnc, hoa, hd, rfl⟩, hss, hx2, hx3, hx4, by show l.length ≤ _; omega, hfit⟩
set_option maxRecDepth 100000 in
/-- An argument of type []api.Clause. -/
theorem clas_arg {H : Type} {enc : TypeId × Value → H} {W : World} {base : Nat} {v : Value} {d : DataW H} {p : List MemPlace} {ts : List TypeId} {ds : List (DataW H)} {j : Nat} (hval : Value.okWide Tryz.prog W .any base 25 v) (h : DataW.Trod enc Tryz.prog W 0 (fun _ => true) true 25 v d p)
    (hs : (DataW.weightsEach Tryz.prog ts ds).all (· ≤ reachBytes) = true) (ht : ts[j]? = some 25) (hd : ds[j]? = some d) : ∃ l a n c, v = .slice a n c ∧ IsClas W l a n c ∧ (∀ x ∈ l, x.fit) ∧ n ≤ 1000000000000000 := by
  have hw : (d.weights Tryz.prog 25).all (· ≤ reachBytes) = true := by
    rw [List.all_eq_true]
    intro n hn
    exact List.all_eq_true.1 hs n (DataW.weights_mem_each ht hd n hn)
  obtain ⟨a, n, c, rfl⟩ := okWide_slice uCls hval
  obtain ⟨fuel, hf⟩ := h
  obtain ⟨vs, a', n', c', e', q1, q2, q3⟩ := rows_arg (Q := fun v : ClV => ∃ x, IsCla W x v ∧ x.fit) ClV.cells ClV.len (by omega) uCls cCl bCl (by omega) (fun k hk cs x g1 g2 => cla_arg k cs x g1 g2) hf hw
  simp only [Value.slice.injEq] at e'
  obtain ⟨rfl, rfl, rfl⟩ := e'
  obtain ⟨l, hl1, hl2⟩ := list_of vs.length (Q := fun i e => ∀ h : i < vs.length, IsCla W e (vs[i]'h) ∧ e.fit) (fun i hi => by
    obtain ⟨e, he⟩ := q2 _ (List.getElem_mem hi)
    exact ⟨e, fun _ => he⟩)
  refine ⟨l, a, n, c, rfl, ⟨vs, q1, hl1, fun i h1 h2 => (hl2 i h1 h2).1⟩, fun x hx => ?_, q3⟩
  obtain ⟨i, hi, rfl⟩ := List.getElem_of_mem hx
  exact (hl2 i hi (by omega)).2
end Go.Proofs.YtfjlglefodndjaaGreatDoor
