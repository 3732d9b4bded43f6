/-
  Texts of the claim, joined: ExArg, TokArg.
-/
import Derived.Test.YtaepiiediblleaaGreatDoorTa06
import Derived.Test.YtaepiiediblleaaGreatDoorTa13
import Derived.Test.YtaepiiediblleaaGreatDoorTa10
import Derived.SliceStrings
import Derived.Test.YtaepiiediblleaaGreatDoorTa03
namespace Go.Proofs.YtaepiiediblleaaGreatDoor
open Go.ChangeShapes Go.WideShapes Go.ChangeAt Go.RowKit

theorem exFields_are : (Tryz.prog.underlying 28).bind (fun u => match u with | .struct fs => some (fs.toList.map (fun f => (f.type, f.offset))) | _ => none) = some [(3, 0), (9, 1), (25, 2), (3, 3), (3, 4), (26, 5)] := by kernel_rfl
theorem uEx : ∃ fs : Array Field, Tryz.prog.underlying 28 = some (.struct fs) ∧ fs.toList.map (fun f => (f.type, f.offset)) = [(3, 0), (9, 1), (25, 2), (3, 3), (3, 4), (26, 5)] := by
  have h := exFields_are
  generalize Tryz.prog.underlying 28 = U at *
  match U, h with
  | some (.struct fs), h => exact ⟨fs, rfl, by simpa using h⟩
theorem cEx : Tryz.prog.cellsOf 28 = 6 := by kernel_rfl
theorem cSs : Tryz.prog.cellsOf 25 = 1 := by kernel_rfl
theorem cExs : Tryz.prog.cellsOf 26 = 1 := by kernel_rfl
theorem uSs : Tryz.prog.underlying 25 = some (.slice 9) := by kernel_rfl
theorem uExs : Tryz.prog.underlying 26 = some (.slice 28) := by kernel_rfl
theorem bStr : Tryz.prog.bytesOf 9 = 16 := by kernel_rfl
theorem list6 {α : Type} (l : List α) (h : l.length = 6) : ∃ a b c d e f, l = [a, b, c, d, e, f] := by
  rcases l with _ | ⟨a, _ | ⟨b, _ | ⟨c, _ | ⟨d, _ | ⟨e, _ | ⟨f, _ | ⟨g, r⟩⟩⟩⟩⟩⟩⟩ <;> simp at h
  exact ⟨a, b, c, d, e, f, rfl⟩
theorem spot_none {W : World} {a : Addr} {v : Value} (h : W.cell? a = some v) : a.spot = none := by
  cases hs : a.spot with
  | none => rfl
  | some x =>
    simp only [World.cell?, hs] at h
    split at h <;> simp at h
theorem add_plain (b off i : Nat) : (⟨b, off, none⟩ : Addr).add i = ⟨b, off + i, none⟩ := by
  unfold Addr.add
  split <;> simp_all
theorem fits_mk' {e : Ex} (h1 : e.name.size ≤ 1000000000000000) (h2 : ∀ x ∈ e.words, x.size ≤ 1000000000000000) (h3 : ∀ x ∈ e.args, x.fits) : e.fits := by
  cases e with
  | mk op name words lo hi args =>
    unfold Ex.fits
    refine ⟨h1, h2, ?_⟩
    simp only [Ex.args] at h3
    clear h1 h2
    induction args with
    | nil => unfold fitsAll; trivial
    | cons a r ih => unfold fitsAll; exact ⟨h3 a (by simp), ih (fun x hx => h3 x (List.mem_cons_of_mem _ hx))⟩
theorem few_mk' {e : Ex} (h2 : e.words.length ≤ 1000000000000000) (h3 : ∀ x ∈ e.args, x.few) : e.few := by
  cases e with
  | mk op name words lo hi args =>
    unfold Ex.few
    refine ⟨h2, ?_⟩
    simp only [Ex.args] at h3
    clear h2
    induction args with
    | nil => unfold fewAll; trivial
    | cons a r ih => unfold fewAll; exact ⟨h3 a (by simp), ih (fun x hx => h3 x (List.mem_cons_of_mem _ hx))⟩
theorem list_of {α : Type} {Q : Nat → α → Prop} : (n : Nat) → (∀ i, i < n → ∃ x, Q i x) → ∃ l : List α, l.length = n ∧ ∀ i (h : i < l.length), Q i l[i]
  | 0, _ => ⟨[], rfl, fun i h => by simp at h⟩
  | n + 1, h => by
    obtain ⟨l, h1, h2⟩ := list_of n (fun i hi => h i (by omega))
    obtain ⟨x, hx⟩ := h n (by omega)
    refine ⟨l ++ [x], by simp [h1], fun i hi => ?_⟩
    by_cases e : i < l.length
    · rw [List.getElem_append_left e]; exact h2 i e
    · have : i = n := by simp at hi; omega
      subst this
      rw [List.getElem_append_right (by omega)]
      simpa using hx
/-- The words of an expression that came in. -/
theorem strs_arg {H : Type} {enc : TypeId × Value → H} {W : World} {n : Nat} {c : Value} {y : DataW H × List MemPlace} (h : DataW.trod enc Tryz.prog W 0 (fun _ => true) true n 25 [c] = some y) (hw : (y.1.weights Tryz.prog 25).all (· ≤ reachBytes) = true) :
    ∃ (l : List ByteArray) (a : Option Addr) (m k : Nat), c = .slice a m k ∧ IsStrs W l a m k ∧ (∀ x ∈ l, x.size ≤ 1000000000000000) ∧ l.length ≤ 1000000000000000 := by
  have hr := reachBytes_lt
  rcases open_strings uSs uS cS h with ⟨hc, _⟩ | ⟨a, len, cap, ss, hc, _, hl, hm, hz, hx, hcell, hsz⟩
  · simp at hc
    exact ⟨[], none, 0, 0, hc, ⟨rfl, by omega, Or.inl ⟨rfl, rfl⟩, fun i hi => by simp at hi⟩, by simp, by simp⟩
  · simp at hc
    subst hc
    simp only [if_true] at hz
    subst hx
    have hw' := hw
    simp only [DataW.weights, uSs, List.all_cons, Bool.and_eq_true, decide_eq_true_eq, List.all_append, bStr] at hw'
    obtain ⟨hw1, hw2, _⟩ := hw'
    have hlen : (strs (H := H) (ss.take len)).length = len := by simp [strs]; omega
    have hdrop : (strs (H := H) (ss.drop len)).length = cap - len := by simp [strs]; omega
    refine ⟨ss.take len, some a, len, cap, rfl, ⟨by simp; omega, hl, ?_, fun i hi => ?_⟩, fun x hx => ?_, by simp; omega⟩
    · by_cases h0 : cap = 0
      · exact Or.inl ⟨h0, h0⟩
      · have h1 := hcell 0 (by omega)
        rw [show a.add 0 = a by simp [Addr.add]] at h1
        have := spot_none h1
        obtain ⟨b, off, sp⟩ := a
        simp only at this
        subst this
        exact Or.inr ⟨b, off, rfl⟩
    · have hi' : i < len := by simp at hi; omega
      have h1 := hcell 0 (by omega)
      rw [show a.add 0 = a by simp [Addr.add]] at h1
      have hsp := spot_none h1
      obtain ⟨b, off, sp⟩ := a
      simp only at hsp
      subst hsp
      have h2 := hcell i (by omega)
      rw [add_plain] at h2
      refine ⟨b, off, rfl, ?_⟩
      rw [h2]
      simp [List.getD, show i < ss.length by omega]
    · have hmem : ∀ (l : List ByteArray), (DataW.weightsAll Tryz.prog 9 (strs (H := H) l)).all (· ≤ reachBytes) = true → ∀ x ∈ l, x.size ≤ reachBytes := by
        intro l
        induction l with
        | nil => intro _ x hx; simp at hx
        | cons y r ih =>
          intro hall x hx
          simp only [strs, List.map_cons, DataW.weightsAll, List.all_append, Bool.and_eq_true] at hall
          rcases List.mem_cons.1 hx with rfl | hx
          · have := hall.1
            simp [DataW.weights] at this
            exact this
          · exact ih hall.2 x hx
      have := hmem _ hw2 x hx
      omega
theorem ex_arg {H : Type} {enc : TypeId × Value → H} {W : World} : ∀ (fuel : Nat) (cs : List Value) (x : DataW H × List MemPlace), DataW.trod enc Tryz.prog W 0 (fun _ => true) true fuel 28 cs = some x → (x.1.weights Tryz.prog 28).all (· ≤ reachBytes) = true →
    ∃ (e : Ex) (v : ExV), cs = v.cells ∧ IsEx W e v.val ∧ e.fits ∧ e.few := by
  intro fuel
  induction fuel using Nat.strongRecOn with
  | _ fuel ih =>
    intro cs x h hw
    obtain ⟨fs, uE, are⟩ := uEx
    obtain ⟨xs, n, rfl, rfl, hlen, hxl, hf⟩ := DataW.trod_struct uE h
    have e6 : fs.size = 6 := by have := congrArg List.length are; simpa using this
    rw [e6] at hxl
    rw [cEx] at hlen
    obtain ⟨c0, c1, c2, c3, c4, c5, rfl⟩ := list6 cs hlen
    obtain ⟨x0, x1, x2, x3, x4, x5, rfl⟩ := list6 xs hxl
    obtain ⟨f0, g0, t0, o0⟩ := op_field 0 _ _ (by rw [are]; rfl)
    obtain ⟨f1, g1, t1, o1⟩ := op_field 1 _ _ (by rw [are]; rfl)
    obtain ⟨f2, g2, t2, o2⟩ := op_field 2 _ _ (by rw [are]; rfl)
    obtain ⟨f3, g3, t3, o3⟩ := op_field 3 _ _ (by rw [are]; rfl)
    obtain ⟨f4, g4, t4, o4⟩ := op_field 4 _ _ (by rw [are]; rfl)
    obtain ⟨f5, g5, t5, o5⟩ := op_field 5 _ _ (by rw [are]; rfl)
    have r0 := hf 0 f0 g0
    have r1 := hf 1 f1 g1
    have r2 := hf 2 f2 g2
    have r3 := hf 3 f3 g3
    have r4 := hf 4 f4 g4
    have r5 := hf 5 f5 g5
    rw [t0, o0, cI] at r0
    rw [t1, o1, cS] at r1
    rw [t2, o2, cSs] at r2
    rw [t3, o3, cI] at r3
    rw [t4, o4, cI] at r4
    rw [t5, o5, cExs] at r5
    simp only [List.drop_zero, List.drop_succ_cons, List.take_succ_cons, List.take_zero, List.getElem?_cons_zero, List.getElem?_cons_succ] at r0 r1 r2 r3 r4 r5
    have hty : fs.toList.map (·.type) = [3, 9, 25, 3, 3, 26] := by
      have := congrArg (List.map Prod.fst) are
      rw [List.map_map] at this
      exact this
    simp only [DataW.weights, uE, hty, List.map_cons, List.map_nil, DataW.weightsEach, List.all_append, Bool.and_eq_true] at hw
    obtain ⟨_, w1, w2, _, _, w5, _⟩ := hw
    obtain ⟨op, a0, _, _⟩ := DataW.trod_int uI r0
    obtain ⟨s, a1, b1, _⟩ := DataW.trod_string uS r1
    obtain ⟨lo, a3, _, _⟩ := DataW.trod_int uI r3
    obtain ⟨hi, a4, _, _⟩ := DataW.trod_int uI r4
    simp only [List.cons.injEq, and_true] at a0 a1 a3 a4
    subst a0 a1 a3 a4
    have hr := reachBytes_lt
    have hss : s.size ≤ 1000000000000000 := by
      rw [b1] at w1
      simp [DataW.weights] at w1
      omega
    obtain ⟨words, aw, nw, cw, rfl, hws, hwz, hwl⟩ := strs_arg r2 w2
    rcases DataW.trod_slice uExs r5 with ⟨hc5, _⟩ | ⟨a, len, cap, elems, rest, k, hk, hc5, hx5, _, hl, hm, hel, hev, hsp, _⟩
    · simp only [List.cons.injEq, and_true] at hc5
      subst hc5
      refine ⟨.mk op s words lo hi [], ⟨op, s, aw, nw, cw, lo, hi, none, 0, 0⟩, rfl, IsEx.mk hws rfl (Nat.le_refl 0) (Or.inl ⟨rfl, rfl⟩) (by unfold ExsD; trivial), fits_mk' hss hwz (by simp [Ex.args]), few_mk' hwl (by simp [Ex.args])⟩
    · simp only [List.cons.injEq, and_true] at hc5
      subst hc5
      rw [hx5] at w5
      simp only [DataW.weights, uExs, List.all_cons, List.all_append, Bool.and_eq_true] at w5
      obtain ⟨_, w6, _⟩ := w5
      have hall : ∀ (l : List (DataW H × List MemPlace)), (DataW.weightsAll Tryz.prog 28 (l.map (·.1))).all (· ≤ reachBytes) = true → ∀ y ∈ l, (y.1.weights Tryz.prog 28).all (· ≤ reachBytes) = true := by
        intro l
        induction l with
        | nil => intro _ y hy; simp at hy
        | cons z r ih2 =>
          intro h1 y hy
          simp only [List.map_cons, DataW.weightsAll, List.all_append, Bool.and_eq_true] at h1
          rcases List.mem_cons.1 hy with rfl | hy
          · exact h1.1
          · exact ih2 h1.2 y hy
      have each : ∀ i, i < len → ∃ ev : Ex × ExV, (∀ j, j < 6 → W.cell? ((a.add (i * 6)).add j) = ev.2.cells[j]?) ∧ IsEx W ev.1 ev.2.val ∧ ev.1.fits ∧ ev.1.few := by
        intro i hi
        have h1 := hev i hi
        rw [List.getElem?_eq_getElem (by omega), cEx, Option.bind_eq_some_iff] at h1
        obtain ⟨cs', h2, h3⟩ := h1
        obtain ⟨e, v, h4, h5, h6, h7⟩ := ih k (by omega) cs' _ h3 (hall elems w6 _ (List.getElem_mem _))
        subst h4
        exact ⟨(e, v), fun j hj => (World.cells?_some h2).2.2 j hj, h5, h6, h7⟩
      have hok : OkAddr (some a) cap := by
        by_cases h0 : cap = 0
        · exact Or.inl ⟨h0, h0⟩
        · have hcell : ∃ v, W.cell? a = some v := by
            by_cases h1 : 0 < len
            · obtain ⟨ev, h2, _⟩ := each 0 h1
              have := h2 0 (by omega)
              rw [show (a.add (0 * 6)).add 0 = a by simp [Addr.add]] at this
              exact ⟨_, by rw [this]; rfl⟩
            · obtain ⟨h3, h4⟩ := hsp rfl
              have h5 := h4 0 (by omega)
              rw [List.getElem?_eq_getElem (by omega), cEx, Option.bind_eq_some_iff] at h5
              obtain ⟨cs', h6, _⟩ := h5
              obtain ⟨_, h8, h7⟩ := World.cells?_some h6
              have h9 := h7 0 (by omega)
              rw [show (a.add ((len + 0) * 6)).add 0 = a by simp [Addr.add, show len = 0 by omega]] at h9
              exact ⟨cs'[0]'(by omega), by rw [h9, List.getElem?_eq_getElem (by omega)]⟩
          obtain ⟨v, hv⟩ := hcell
          have := spot_none hv
          obtain ⟨b, off, sp⟩ := a
          simp only at this
          subst this
          exact Or.inr ⟨b, off, rfl⟩
      obtain ⟨l, hl1, hl2⟩ := list_of len each
      refine ⟨.mk op s words lo hi (l.map (·.1)), ⟨op, s, aw, nw, cw, lo, hi, some a, len, cap⟩, rfl, IsEx.mk hws (by simp [hl1]) hl hok ?_, fits_mk' hss hwz ?_, few_mk' hwl ?_⟩
      · cases hll : l with
        | nil => unfold ExsD; trivial
        | cons z r =>
          rw [← hll]
          have hpos : 0 < l.length := by rw [hll]; simp
          have h2 := (hl2 0 hpos).1 0 (by omega)
          rw [show (a.add (0 * 6)).add 0 = a by simp [Addr.add]] at h2
          have hsp2 := spot_none (v := (l[0].2.cells)[0]'(by simp [ExV.cells])) (by rw [h2]; exact List.getElem?_eq_getElem _)
          obtain ⟨b, off, sp⟩ := a
          simp only at hsp2
          subst hsp2
          refine ExsD.of (l.map (·.1)) off (l.map (·.2)) (by simp) fun i h3 h4 => ?_
          have hi : i < l.length := by simpa using h3
          obtain ⟨q1, q2, _⟩ := hl2 i hi
          simp only [List.getElem_map]
          refine ⟨fun j hj => ?_, q2⟩
          have := q1 j hj
          rwa [add_plain, add_plain] at this
      · intro y hy
        simp only [Ex.args, List.mem_map] at hy
        obtain ⟨z, hz, rfl⟩ := hy
        obtain ⟨i, hi, rfl⟩ := List.getElem_of_mem hz
        exact (hl2 i hi).2.2.1
      · intro y hy
        simp only [Ex.args, List.mem_map] at hy
        obtain ⟨z, hz, rfl⟩ := hy
        obtain ⟨i, hi, rfl⟩ := List.getElem_of_mem hz
        exact (hl2 i hi).2.2.2
set_option maxRecDepth 100000 in
/-- An argument of type Expr. -/
theorem expr_arg {H : Type} {enc : TypeId × Value → H} {W : World} {v : Value} {d : DataW H} {p : List MemPlace} {ts : List TypeId} {ds : List (DataW H)} {j : Nat} (h : DataW.Trod enc Tryz.prog W 0 (fun _ => true) true 28 v d p) {base : Nat} (hval : Value.okWide Tryz.prog W .any base 28 v)
    (hs : (DataW.weightsEach Tryz.prog ts ds).all (· ≤ reachBytes) = true) (ht : ts[j]? = some 28) (hd : ds[j]? = some d) : ∃ (e : Ex), IsEx W e v ∧ e.fits ∧ e.few := by
  obtain ⟨fuel, hf⟩ := h
  have hw : (d.weights Tryz.prog 28).all (· ≤ reachBytes) = true := by
    rw [List.all_eq_true]
    intro n hn
    exact List.all_eq_true.1 hs n (DataW.weights_mem_each ht hd n hn)
  obtain ⟨e, x, h1, h2, h3, h4⟩ := ex_arg fuel _ _ hf hw
  refine ⟨e, ?_, h3, h4⟩
  obtain ⟨fs, uE, _⟩ := uEx
  obtain ⟨cs, rfl, _⟩ := okWide_struct uE hval
  simp only [Value.cells] at h1
  have : (Value.agg cs) = x.val := by
    have e : cs = x.cells.toArray := by rw [← h1]
    rw [e]; rfl
  rw [this]; exact h2
end Go.Proofs.YtaepiiediblleaaGreatDoor

namespace Go.Proofs.YtaepiiediblleaaGreatDoor
open Go.ChangeShapes Go.WideShapes Go.ChangeAt Go.RowKit

theorem tokFields_are : (Tryz.prog.underlying 73).bind (fun u => match u with | .struct fs => some (fs.toList.map (fun f => (f.type, f.offset))) | _ => none) = some [(3, 0), (9, 1), (3, 2), (3, 3)] := by kernel_rfl
theorem uTok : ∃ fs : Array Field, Tryz.prog.underlying 73 = some (.struct fs) ∧ fs.toList.map (fun f => (f.type, f.offset)) = [(3, 0), (9, 1), (3, 2), (3, 3)] := by
  have h := tokFields_are
  generalize Tryz.prog.underlying 73 = U at *
  match U, h with
  | some (.struct fs), h => exact ⟨fs, rfl, by simpa using h⟩
theorem cTok : Tryz.prog.cellsOf 73 = 4 := by kernel_rfl
theorem uToks : Tryz.prog.underlying 22 = some (.slice 73) := by kernel_rfl
theorem bTok : Tryz.prog.bytesOf 73 = 40 := by kernel_rfl
theorem list4 {α : Type} (l : List α) (h : l.length = 4) : ∃ a b c d, l = [a, b, c, d] := by
  rcases l with _ | ⟨a, _ | ⟨b, _ | ⟨c, _ | ⟨d, _ | ⟨g, r⟩⟩⟩⟩⟩ <;> simp at h
  exact ⟨a, b, c, d, rfl⟩
/-- A token that came in. -/
theorem tok_arg {H : Type} {enc : TypeId × Value → H} {W : World} (fuel : Nat) (cs : List Value) (x : DataW H × List MemPlace) (h : DataW.trod enc Tryz.prog W 0 (fun _ => true) true fuel 73 cs = some x) (hw : (x.1.weights Tryz.prog 73).all (· ≤ reachBytes) = true) :
    ∃ t : Tok, cs = tokCells t ∧ t.text.size ≤ 1000000000000000 := by
  obtain ⟨fs, uE, are⟩ := uTok
  obtain ⟨xs, n, rfl, rfl, hlen, hxl, hf⟩ := DataW.trod_struct uE h
  have e6 : fs.size = 4 := by have := congrArg List.length are; simpa using this
  rw [e6] at hxl
  rw [cTok] at hlen
  obtain ⟨c0, c1, c2, c3, rfl⟩ := list4 cs hlen
  obtain ⟨x0, x1, x2, x3, rfl⟩ := list4 xs hxl
  obtain ⟨f0, g0, t0, o0⟩ := op_field 0 _ _ (by rw [are]; rfl)
  obtain ⟨f1, g1, t1, o1⟩ := op_field 1 _ _ (by rw [are]; rfl)
  obtain ⟨f2, g2, t2, o2⟩ := op_field 2 _ _ (by rw [are]; rfl)
  obtain ⟨f3, g3, t3, o3⟩ := op_field 3 _ _ (by rw [are]; rfl)
  have r0 := hf 0 f0 g0
  have r1 := hf 1 f1 g1
  have r2 := hf 2 f2 g2
  have r3 := hf 3 f3 g3
  rw [t0, o0, cI] at r0
  rw [t1, o1, cS] at r1
  rw [t2, o2, cI] at r2
  rw [t3, o3, cI] at r3
  simp only [List.drop_zero, List.drop_succ_cons, List.take_succ_cons, List.take_zero, List.getElem?_cons_zero, List.getElem?_cons_succ] at r0 r1 r2 r3
  have hty : fs.toList.map (·.type) = [3, 9, 3, 3] := by
    have := congrArg (List.map Prod.fst) are
    rw [List.map_map] at this
    exact this
  simp only [DataW.weights, uE, hty, List.map_cons, List.map_nil, DataW.weightsEach, List.all_append, Bool.and_eq_true] at hw
  obtain ⟨_, w1, _⟩ := hw
  obtain ⟨kind, a0, _, _⟩ := DataW.trod_int uI r0
  obtain ⟨s, a1, b1, _⟩ := DataW.trod_string uS r1
  obtain ⟨num, a2, _, _⟩ := DataW.trod_int uI r2
  obtain ⟨pos, a3, _, _⟩ := DataW.trod_int uI r3
  simp only [List.cons.injEq, and_true] at a0 a1 a2 a3
  subst a0 a1 a2 a3
  have hr := reachBytes_lt
  refine ⟨⟨kind, s, num, pos⟩, rfl, ?_⟩
  rw [b1] at w1
  simp [DataW.weights] at w1
  show s.size ≤ _
  omega
set_option maxRecDepth 100000 in
/-- An argument of type []api.Token. -/
theorem toks_arg {H : Type} {enc : TypeId × Value → H} {W : World} {base : Nat} {v : Value} {d : DataW H} {p : List MemPlace} {ts : List TypeId} {ds : List (DataW H)} {j : Nat} (hval : Value.okWide Tryz.prog W .any base 22 v) (h : DataW.Trod enc Tryz.prog W 0 (fun _ => true) true 22 v d p)
    (hs : (DataW.weightsEach Tryz.prog ts ds).all (· ≤ reachBytes) = true) (ht : ts[j]? = some 22) (hd : ds[j]? = some d) : ∃ l a n c, v = .slice a n c ∧ IsToks W l a n c ∧ (∀ t ∈ l, t.text.size ≤ 1000000000000000) ∧ n ≤ 1000000000000000 := by
  have hw : (d.weights Tryz.prog 22).all (· ≤ reachBytes) = true := by
    rw [List.all_eq_true]
    intro n hn
    exact List.all_eq_true.1 hs n (DataW.weights_mem_each ht hd n hn)
  obtain ⟨a, n, c, rfl⟩ := okWide_slice uToks hval
  obtain ⟨fuel, hf⟩ := h
  have hr := reachBytes_lt
  rcases DataW.trod_slice uToks hf with ⟨hc5, _⟩ | ⟨a', len, cap, elems, rest, k, hk, hc5, hx5, _, hl, hm, hel, hev, hsp, _⟩
  · simp [Value.cells] at hc5
    obtain ⟨rfl, rfl, rfl⟩ := hc5
    exact ⟨[], none, 0, 0, rfl, ⟨rfl, Nat.le_refl 0, Or.inl ⟨rfl, rfl⟩, fun i hi => by simp at hi⟩, by simp, by omega⟩
  · simp [Value.cells] at hc5
    obtain ⟨rfl, rfl, rfl⟩ := hc5
    have hx6 : d = .slice (elems.map (·.1)) (rest.map (·.1)) := (Prod.mk.inj hx5).1
    rw [hx6] at hw
    simp only [DataW.weights, uToks, List.all_cons, List.all_append, Bool.and_eq_true, decide_eq_true_eq, bTok] at hw
    obtain ⟨w5, w6, _⟩ := hw
    have hall : ∀ (l : List (DataW H × List MemPlace)), (DataW.weightsAll Tryz.prog 73 (l.map (·.1))).all (· ≤ reachBytes) = true → ∀ y ∈ l, (y.1.weights Tryz.prog 73).all (· ≤ reachBytes) = true := by
      intro l
      induction l with
      | nil => intro _ y hy; simp at hy
      | cons z r ih2 =>
        intro h1 y hy
        simp only [List.map_cons, DataW.weightsAll, List.all_append, Bool.and_eq_true] at h1
        rcases List.mem_cons.1 hy with rfl | hy
        · exact h1.1
        · exact ih2 h1.2 y hy
    have each : ∀ i, i < n → ∃ t : Tok, (∀ j, j < 4 → W.cell? ((a'.add (i * 4)).add j) = (tokCells t)[j]?) ∧ t.text.size ≤ 1000000000000000 := by
      intro i hi
      have h1 := hev i hi
      rw [List.getElem?_eq_getElem (by omega), cTok, Option.bind_eq_some_iff] at h1
      obtain ⟨cs', h2, h3⟩ := h1
      obtain ⟨t, h4, h5⟩ := tok_arg k cs' _ h3 (hall elems w6 _ (List.getElem_mem _))
      subst h4
      exact ⟨t, fun j hj => (World.cells?_some h2).2.2 j hj, h5⟩
    have hok : OkAddr (some a') c := by
      by_cases h0 : c = 0
      · exact Or.inl ⟨h0, h0⟩
      · have hcell : ∃ v, W.cell? a' = some v := by
          by_cases h1 : 0 < n
          · obtain ⟨t, h2, _⟩ := each 0 h1
            have := h2 0 (by omega)
            rw [show (a'.add (0 * 4)).add 0 = a' by simp [Addr.add]] at this
            exact ⟨_, by rw [this]; rfl⟩
          · obtain ⟨h3, h4⟩ := hsp rfl
            have h5 := h4 0 (by omega)
            rw [List.getElem?_eq_getElem (by omega), cTok, Option.bind_eq_some_iff] at h5
            obtain ⟨cs', h6, _⟩ := h5
            obtain ⟨_, h8, h7⟩ := World.cells?_some h6
            have h9 := h7 0 (by omega)
            rw [show (a'.add ((n + 0) * 4)).add 0 = a' by simp [Addr.add, show n = 0 by omega]] at h9
            exact ⟨cs'[0]'(by omega), by rw [h9, List.getElem?_eq_getElem (by omega)]⟩
        obtain ⟨v, hv⟩ := hcell
        have := spot_none hv
        obtain ⟨b, off, sp⟩ := a'
        simp only at this
        subst this
        exact Or.inr ⟨b, off, rfl⟩
    obtain ⟨l, hl1, hl2⟩ := list_of n each
    refine ⟨l, some a', n, c, rfl, ⟨hl1.symm, hl, hok, fun i hi => ?_⟩, fun t ht => ?_, ?_⟩
    · have h2 := (hl2 0 (by omega)).1 0 (by omega)
      rw [show (a'.add (0 * 4)).add 0 = a' by simp [Addr.add]] at h2
      have hsp2 := spot_none (v := (tokCells l[0])[0]'(by simp [tokCells])) (by rw [h2]; exact List.getElem?_eq_getElem _)
      obtain ⟨b, off, sp⟩ := a'
      simp only at hsp2
      subst hsp2
      refine ⟨b, off, rfl, fun j hj => ?_⟩
      have := (hl2 i hi).1 j (by simpa [tokCells] using hj)
      rw [add_plain, add_plain, List.getElem?_eq_getElem hj] at this
      exact this
    · obtain ⟨i, hi, rfl⟩ := List.getElem_of_mem ht
      exact (hl2 i hi).2
    · have : (elems.map (·.1)).length = n := by simp; omega
      omega
end Go.Proofs.YtaepiiediblleaaGreatDoor
