/-
  Texts of the claim, joined: ExArg, RowsArg, SchArg, ExArg2, ClaArg.
-/
import Derived.Test.YtfjlglefodndjaaGreatDoorCe04
import Derived.Test.YtfjlglefodndjaaGreatDoorCe08
import Derived.Test.YtfjlglefodndjaaGreatDoorCe06
import Derived.SliceStrings
import Derived.Test.YtfjlglefodndjaaGreatDoorCe02
import Derived.Test.YtfjlglefodndjaaGreatDoorCe07
import Derived.Test.YtfjlglefodndjaaGreatDoorCe09
import Derived.Test.YtfjlglefodndjaaGreatDoorCe20
import Derived.Test.YtfjlglefodndjaaGreatDoorCe14
namespace Go.Proofs.YtfjlglefodndjaaGreatDoor
open Go.ChangeShapes Go.WideShapes Go.ChangeAt Go.RowKit

theorem exFields_are : (Tryz.prog.underlying 29).bind (fun u => match u with | .struct fs => some (fs.toList.map (fun f => (f.type, f.offset))) | _ => none) = some [(3, 0), (9, 1), (26, 2), (3, 3), (3, 4), (27, 5)] := by kernel_rfl
theorem uEx : ∃ fs : Array Field, Tryz.prog.underlying 29 = some (.struct fs) ∧ fs.toList.map (fun f => (f.type, f.offset)) = [(3, 0), (9, 1), (26, 2), (3, 3), (3, 4), (27, 5)] := by
  have h := exFields_are
  generalize Tryz.prog.underlying 29 = U at *
  match U, h with
  | some (.struct fs), h => exact ⟨fs, rfl, by simpa using h⟩
theorem cEx : Tryz.prog.cellsOf 29 = 6 := by kernel_rfl
theorem cSs : Tryz.prog.cellsOf 26 = 1 := by kernel_rfl
theorem cExs : Tryz.prog.cellsOf 27 = 1 := by kernel_rfl
theorem uSs : Tryz.prog.underlying 26 = some (.slice 9) := by kernel_rfl
theorem uExs : Tryz.prog.underlying 27 = some (.slice 29) := by kernel_rfl
theorem bStr : Tryz.prog.bytesOf 9 = 16 := by kernel_rfl
theorem list6 {α : Type} (l : List α) (h : l.length = 6) : ∃ a b c d e f, l = [a, b, c, d, e, f] := by
  rcases l with _ | ⟨a, _ | ⟨b, _ | ⟨c, _ | ⟨d, _ | ⟨e, _ | ⟨f, _ | ⟨g, r⟩⟩⟩⟩⟩⟩⟩ <;> simp at h
  exact ⟨a, b, c, d, e, f, rfl⟩
theorem spot_none {W : World} {a : Addr} {v : Value} (h : W.cell? a = some v) : a.spot = none := by
  cases hs : a.spot with
  | none => rfl
  | some x =>
    simp only [World.cell?, hs] at h
    split at h <;> simp at h
theorem add_plain (b off i : Nat) : (⟨b, off, none⟩ : Addr).add i = ⟨b, off + i, none⟩ := by
  unfold Addr.add
  split <;> simp_all
theorem fits_mk' {e : Ex} (h1 : e.name.size ≤ 1000000000000000) (h2 : ∀ x ∈ e.words, x.size ≤ 1000000000000000) (h3 : ∀ x ∈ e.args, x.fits) : e.fits := by
  cases e with
  | mk op name words lo hi args =>
    unfold Ex.fits
    refine ⟨h1, h2, ?_⟩
    simp only [Ex.args] at h3
    clear h1 h2
    induction args with
    | nil => unfold fitsAll; trivial
    | cons a r ih => unfold fitsAll; exact ⟨h3 a (by simp), ih (fun x hx => h3 x (List.mem_cons_of_mem _ hx))⟩
theorem few_mk' {e : Ex} (h2 : e.words.length ≤ 1000000000000000) (h3 : ∀ x ∈ e.args, x.few) : e.few := by
  cases e with
  | mk op name words lo hi args =>
    unfold Ex.few
    refine ⟨h2, ?_⟩
    simp only [Ex.args] at h3
    clear h2
    induction args with
    | nil => unfold fewAll; trivial
    | cons a r ih => unfold fewAll; exact ⟨h3 a (by simp), ih (fun x hx => h3 x (List.mem_cons_of_mem _ hx))⟩
theorem list_of {α : Type} {Q : Nat → α → Prop} : (n : Nat) → (∀ i, i < n → ∃ x, Q i x) → ∃ l : List α, l.length = n ∧ ∀ i (h : i < l.length), Q i l[i]
  | 0, _ => ⟨[], rfl, fun i h => by simp at h⟩
  | n + 1, h => by
    obtain ⟨l, h1, h2⟩ := list_of n (fun i hi => h i (by omega))
    obtain ⟨x, hx⟩ := h n (by omega)
    refine ⟨l ++ [x], by simp [h1], fun i hi => ?_⟩
    by_cases e : i < l.length
    · rw [List.getElem_append_left e]; exact h2 i e
    · have : i = n := by simp at hi; omega
      subst this
      rw [List.getElem_append_right (by omega)]
      simpa using hx
/-- The words of an expression that came in. -/
theorem strs_arg {H : Type} {enc : TypeId × Value → H} {W : World} {n : Nat} {c : Value} {y : DataW H × List MemPlace} (h : DataW.trod enc Tryz.prog W 0 (fun _ => true) true n 26 [c] = some y) (hw : (y.1.weights Tryz.prog 26).all (· ≤ reachBytes) = true) :
    ∃ (l : List ByteArray) (a : Option Addr) (m k : Nat), c = .slice a m k ∧ IsStrs W l a m k ∧ (∀ x ∈ l, x.size ≤ 1000000000000000) ∧ l.length ≤ 1000000000000000 := by
  have hr := reachBytes_lt
  rcases open_strings uSs uS cS h with ⟨hc, _⟩ | ⟨a, len, cap, ss, hc, _, hl, hm, hz, hx, hcell, hsz⟩
  · simp at hc
    exact ⟨[], none, 0, 0, hc, ⟨rfl, by omega, Or.inl ⟨rfl, rfl⟩, fun i hi => by simp at hi⟩, by simp, by simp⟩
  · simp at hc
    subst hc
    simp only [if_true] at hz
    subst hx
    have hw' := hw
    simp only [DataW.weights, uSs, List.all_cons, Bool.and_eq_true, decide_eq_true_eq, List.all_append, bStr] at hw'
    obtain ⟨hw1, hw2, _⟩ := hw'
    have hlen : (strs (H := H) (ss.take len)).length = len := by simp [strs]; omega
    have hdrop : (strs (H := H) (ss.drop len)).length = cap - len := by simp [strs]; omega
    refine ⟨ss.take len, some a, len, cap, rfl, ⟨by simp; omega, hl, ?_, fun i hi => ?_⟩, fun x hx => ?_, by simp; omega⟩
    · by_cases h0 : cap = 0
      · exact Or.inl ⟨h0, h0⟩
      · have h1 := hcell 0 (by omega)
        rw [show a.add 0 = a by simp [Addr.add]] at h1
        have := spot_none h1
        obtain ⟨b, off, sp⟩ := a
        simp only at this
        subst this
        exact Or.inr ⟨b, off, rfl⟩
    · have hi' : i < len := by simp at hi; omega
      have h1 := hcell 0 (by omega)
      rw [show a.add 0 = a by simp [Addr.add]] at h1
      have hsp := spot_none h1
      obtain ⟨b, off, sp⟩ := a
      simp only at hsp
      subst hsp
      have h2 := hcell i (by omega)
      rw [add_plain] at h2
      refine ⟨b, off, rfl, ?_⟩
      rw [h2]
      simp [List.getD, show i < ss.length by omega]
    · have hmem : ∀ (l : List ByteArray), (DataW.weightsAll Tryz.prog 9 (strs (H := H) l)).all (· ≤ reachBytes) = true → ∀ x ∈ l, x.size ≤ reachBytes := by
        intro l
        induction l with
        | nil => intro _ x hx; simp at hx
        | cons y r ih =>
          intro hall x hx
          simp only [strs, List.map_cons, DataW.weightsAll, List.all_append, Bool.and_eq_true] at hall
          rcases List.mem_cons.1 hx with rfl | hx
          · have := hall.1
            simp [DataW.weights] at this
            exact this
          · exact ih hall.2 x hx
      have := hmem _ hw2 x hx
      omega
theorem ex_arg {H : Type} {enc : TypeId × Value → H} {W : World} : ∀ (fuel : Nat) (cs : List Value) (x : DataW H × List MemPlace), DataW.trod enc Tryz.prog W 0 (fun _ => true) true fuel 29 cs = some x → (x.1.weights Tryz.prog 29).all (· ≤ reachBytes) = true →
    ∃ (e : Ex) (v : ExV), cs = v.cells ∧ IsEx W e v.val ∧ e.fits ∧ e.few := by
  intro fuel
  induction fuel using Nat.strongRecOn with
  | _ fuel ih =>
    intro cs x h hw
    obtain ⟨fs, uE, are⟩ := uEx
    obtain ⟨xs, n, rfl, rfl, hlen, hxl, hf⟩ := DataW.trod_struct uE h
    have e6 : fs.size = 6 := by have := congrArg List.length are; simpa using this
    rw [e6] at hxl
    rw [cEx] at hlen
    obtain ⟨c0, c1, c2, c3, c4, c5, rfl⟩ := list6 cs hlen
    obtain ⟨x0, x1, x2, x3, x4, x5, rfl⟩ := list6 xs hxl
    obtain ⟨f0, g0, t0, o0⟩ := op_field 0 _ _ (by rw [are]; rfl)
    obtain ⟨f1, g1, t1, o1⟩ := op_field 1 _ _ (by rw [are]; rfl)
    obtain ⟨f2, g2, t2, o2⟩ := op_field 2 _ _ (by rw [are]; rfl)
    obtain ⟨f3, g3, t3, o3⟩ := op_field 3 _ _ (by rw [are]; rfl)
    obtain ⟨f4, g4, t4, o4⟩ := op_field 4 _ _ (by rw [are]; rfl)
    obtain ⟨f5, g5, t5, o5⟩ := op_field 5 _ _ (by rw [are]; rfl)
    have r0 := hf 0 f0 g0
    have r1 := hf 1 f1 g1
    have r2 := hf 2 f2 g2
    have r3 := hf 3 f3 g3
    have r4 := hf 4 f4 g4
    have r5 := hf 5 f5 g5
    rw [t0, o0, cI] at r0
    rw [t1, o1, cS] at r1
    rw [t2, o2, cSs] at r2
    rw [t3, o3, cI] at r3
    rw [t4, o4, cI] at r4
    rw [t5, o5, cExs] at r5
    simp only [List.drop_zero, List.drop_succ_cons, List.take_succ_cons, List.take_zero, List.getElem?_cons_zero, List.getElem?_cons_succ] at r0 r1 r2 r3 r4 r5
    have hty : fs.toList.map (·.type) = [3, 9, 26, 3, 3, 27] := by
      have := congrArg (List.map Prod.fst) are
      rw [List.map_map] at this
      exact this
    simp only [DataW.weights, uE, hty, List.map_cons, List.map_nil, DataW.weightsEach, List.all_append, Bool.and_eq_true] at hw
    obtain ⟨_, w1, w2, _, _, w5, _⟩ := hw
    obtain ⟨op, a0, _, _⟩ := DataW.trod_int uI r0
    obtain ⟨s, a1, b1, _⟩ := DataW.trod_string uS r1
    obtain ⟨lo, a3, _, _⟩ := DataW.trod_int uI r3
    obtain ⟨hi, a4, _, _⟩ := DataW.trod_int uI r4
    simp only [List.cons.injEq, and_true] at a0 a1 a3 a4
    subst a0 a1 a3 a4
    have hr := reachBytes_lt
    have hss : s.size ≤ 1000000000000000 := by
      rw [b1] at w1
      simp [DataW.weights] at w1
      omega
    obtain ⟨words, aw, nw, cw, rfl, hws, hwz, hwl⟩ := strs_arg r2 w2
    rcases DataW.trod_slice uExs r5 with ⟨hc5, _⟩ | ⟨a, len, cap, elems, rest, k, hk, hc5, hx5, _, hl, hm, hel, hev, hsp, _⟩
    · simp only [List.cons.injEq, and_true] at hc5
      subst hc5
      refine ⟨.mk op s words lo hi [], ⟨op, s, aw, nw, cw, lo, hi, none, 0, 0⟩, rfl, IsEx.mk hws rfl (Nat.le_refl 0) (Or.inl ⟨rfl, rfl⟩) (by unfold ExsD; trivial), fits_mk' hss hwz (by simp [Ex.args]), few_mk' hwl (by simp [Ex.args])⟩
    · simp only [List.cons.injEq, and_true] at hc5
      subst hc5
      rw [hx5] at w5
      simp only [DataW.weights, uExs, List.all_cons, List.all_append, Bool.and_eq_true] at w5
      obtain ⟨_, w6, _⟩ := w5
      have hall : ∀ (l : List (DataW H × List MemPlace)), (DataW.weightsAll Tryz.prog 29 (l.map (·.1))).all (· ≤ reachBytes) = true → ∀ y ∈ l, (y.1.weights Tryz.prog 29).all (· ≤ reachBytes) = true := by
        intro l
        induction l with
        | nil => intro _ y hy; simp at hy
        | cons z r ih2 =>
          intro h1 y hy
          simp only [List.map_cons, DataW.weightsAll, List.all_append, Bool.and_eq_true] at h1
          rcases List.mem_cons.1 hy with rfl | hy
          · exact h1.1
          · exact ih2 h1.2 y hy
      have each : ∀ i, i < len → ∃ ev : Ex × ExV, (∀ j, j < 6 → W.cell? ((a.add (i * 6)).add j) = ev.2.cells[j]?) ∧ IsEx W ev.1 ev.2.val ∧ ev.1.fits ∧ ev.1.few := by
        intro i hi
        have h1 := hev i hi
        rw [List.getElem?_eq_getElem (by omega), cEx, Option.bind_eq_some_iff] at h1
        obtain ⟨cs', h2, h3⟩ := h1
        obtain ⟨e, v, h4, h5, h6, h7⟩ := ih k (by omega) cs' _ h3 (hall elems w6 _ (List.getElem_mem _))
        subst h4
        exact ⟨(e, v), fun j hj => (World.cells?_some h2).2.2 j hj, h5, h6, h7⟩
      have hok : OkAddr (some a) cap := by
        by_cases h0 : cap = 0
        · exact Or.inl ⟨h0, h0⟩
        · have hcell : ∃ v, W.cell? a = some v := by
            by_cases h1 : 0 < len
            · obtain ⟨ev, h2, _⟩ := each 0 h1
              have := h2 0 (by omega)
              rw [show (a.add (0 * 6)).add 0 = a by simp [Addr.add]] at this
              exact ⟨_, by rw [this]; rfl⟩
            · obtain ⟨h3, h4⟩ := hsp rfl
              have h5 := h4 0 (by omega)
              rw [List.getElem?_eq_getElem (by omega), cEx, Option.bind_eq_some_iff] at h5
              obtain ⟨cs', h6, _⟩ := h5
              obtain ⟨_, h8, h7⟩ := World.cells?_some h6
              have h9 := h7 0 (by omega)
              rw [show (a.add ((len + 0) * 6)).add 0 = a by simp [Addr.add, show len = 0 by omega]] at h9
              exact ⟨cs'[0]'(by omega), by rw [h9, List.getElem?_eq_getElem (by omega)]⟩
          obtain ⟨v, hv⟩ := hcell
          have := spot_none hv
          obtain ⟨b, off, sp⟩ := a
          simp only at this
          subst this
          exact Or.inr ⟨b, off, rfl⟩
      obtain ⟨l, hl1, hl2⟩ := list_of len each
      refine ⟨.mk op s words lo hi (l.map (·.1)), ⟨op, s, aw, nw, cw, lo, hi, some a, len, cap⟩, rfl, IsEx.mk hws (by simp [hl1]) hl hok ?_, fits_mk' hss hwz ?_, few_mk' hwl ?_⟩
      · cases hll : l with
        | nil => unfold ExsD; trivial
        | cons z r =>
          rw [← hll]
          have hpos : 0 < l.length := by rw [hll]; simp
          have h2 := (hl2 0 hpos).1 0 (by omega)
          rw [show (a.add (0 * 6)).add 0 = a by simp [Addr.add]] at h2
          have hsp2 := spot_none (v := (l[0].2.cells)[0]'(by simp [ExV.cells])) (by rw [h2]; exact List.getElem?_eq_getElem _)
          obtain ⟨b, off, sp⟩ := a
          simp only at hsp2
          subst hsp2
          refine ExsD.of (l.map (·.1)) off (l.map (·.2)) (by simp) fun i h3 h4 => ?_
          have hi : i < l.length := by simpa using h3
          obtain ⟨q1, q2, _⟩ := hl2 i hi
          simp only [List.getElem_map]
          refine ⟨fun j hj => ?_, q2⟩
          have := q1 j hj
          rwa [add_plain, add_plain] at this
      · intro y hy
        simp only [Ex.args, List.mem_map] at hy
        obtain ⟨z, hz, rfl⟩ := hy
        obtain ⟨i, hi, rfl⟩ := List.getElem_of_mem hz
        exact (hl2 i hi).2.2.1
      · intro y hy
        simp only [Ex.args, List.mem_map] at hy
        obtain ⟨z, hz, rfl⟩ := hy
        obtain ⟨i, hi, rfl⟩ := List.getElem_of_mem hz
        exact (hl2 i hi).2.2.2
set_option maxRecDepth 100000 in
/-- An argument of type Expr. -/
theorem expr_arg {H : Type} {enc : TypeId × Value → H} {W : World} {v : Value} {d : DataW H} {p : List MemPlace} {ts : List TypeId} {ds : List (DataW H)} {j : Nat} (h : DataW.Trod enc Tryz.prog W 0 (fun _ => true) true 29 v d p) {base : Nat} (hval : Value.okWide Tryz.prog W .any base 29 v)
    (hs : (DataW.weightsEach Tryz.prog ts ds).all (· ≤ reachBytes) = true) (ht : ts[j]? = some 29) (hd : ds[j]? = some d) : ∃ (e : Ex), IsEx W e v ∧ e.fits ∧ e.few := by
  obtain ⟨fuel, hf⟩ := h
  have hw : (d.weights Tryz.prog 29).all (· ≤ reachBytes) = true := by
    rw [List.all_eq_true]
    intro n hn
    exact List.all_eq_true.1 hs n (DataW.weights_mem_each ht hd n hn)
  obtain ⟨e, x, h1, h2, h3, h4⟩ := ex_arg fuel _ _ hf hw
  refine ⟨e, ?_, h3, h4⟩
  obtain ⟨fs, uE, _⟩ := uEx
  obtain ⟨cs, rfl, _⟩ := okWide_struct uE hval
  simp only [Value.cells] at h1
  have : (Value.agg cs) = x.val := by
    have e : cs = x.cells.toArray := by rw [← h1]
    rw [e]; rfl
  rw [this]; exact h2
end Go.Proofs.YtfjlglefodndjaaGreatDoor

namespace Go.Proofs.YtfjlglefodndjaaGreatDoor
open Go.ChangeShapes Go.WideShapes Go.ChangeAt Go.RowKit

theorem weights_each {H : Type} {tE : TypeId} : ∀ (l : List (DataW H × List MemPlace)), (DataW.weightsAll Tryz.prog tE (l.map (·.1))).all (· ≤ reachBytes) = true → ∀ y ∈ l, (y.1.weights Tryz.prog tE).all (· ≤ reachBytes) = true := by
  intro l
  induction l with
  | nil => intro _ y hy; simp at hy
  | cons z r ih2 =>
    intro h1 y hy
    simp only [List.map_cons, DataW.weightsAll, List.all_append, Bool.and_eq_true] at h1
    rcases List.mem_cons.1 hy with rfl | hy
    · exact h1.1
    · exact ih2 h1.2 y hy
/-- A slice of rows that came in: each row is read by el. -/
theorem rows_arg {α : Type} {H : Type} {enc : TypeId × Value → H} {W : World} {tS tE : TypeId} {m : Nat} (f : α → List Value) (hf : ∀ y, (f y).length = m) (hm0 : 0 < m) (uSl : Tryz.prog.underlying tS = some (.slice tE)) (cE : Tryz.prog.cellsOf tE = m) {B : Nat} (bE : Tryz.prog.bytesOf tE = B) (hB : 0 < B) {Q : α → Prop} {fuel : Nat}
    (el : ∀ k, k < fuel → ∀ (cs : List Value) (x : DataW H × List MemPlace), DataW.trod enc Tryz.prog W 0 (fun _ => true) true k tE cs = some x → (x.1.weights Tryz.prog tE).all (· ≤ reachBytes) = true → ∃ y, cs = f y ∧ Q y)
    {c : Value} {y : DataW H × List MemPlace} (h : DataW.trod enc Tryz.prog W 0 (fun _ => true) true fuel tS [c] = some y) (hw : (y.1.weights Tryz.prog tS).all (· ≤ reachBytes) = true) :
    ∃ ys a n k, c = .slice a n k ∧ IsRows W m f ys a n k ∧ (∀ z ∈ ys, Q z) ∧ n ≤ 1000000000000000 := by
  have hr := reachBytes_lt
  rcases DataW.trod_slice uSl h with ⟨hc5, _⟩ | ⟨a, len, cap, elems, rest, k, hk, hc5, hx5, _, hl, hm, hel, hev, hsp, _⟩
  · simp only [List.cons.injEq, and_true] at hc5
    subst hc5
    exact ⟨[], none, 0, 0, rfl, ⟨rfl, Nat.le_refl 0, Or.inl ⟨rfl, rfl⟩, fun i hi => by simp at hi⟩, by simp, by omega⟩
  · simp only [List.cons.injEq, and_true] at hc5
    subst hc5
    rw [hx5] at hw
    simp only [DataW.weights, uSl, List.all_cons, List.all_append, Bool.and_eq_true, decide_eq_true_eq, bE] at hw
    obtain ⟨w5, w6, _⟩ := hw
    have each : ∀ i, i < len → ∃ t : α, (∀ j, j < m → W.cell? ((a.add (i * m)).add j) = (f t)[j]?) ∧ Q t := by
      intro i hi
      have h1 := hev i hi
      rw [List.getElem?_eq_getElem (by omega), cE, Option.bind_eq_some_iff] at h1
      obtain ⟨cs', h2, h3⟩ := h1
      obtain ⟨t, h4, h5⟩ := el k (by omega) cs' _ h3 (weights_each elems w6 _ (List.getElem_mem _))
      subst h4
      exact ⟨t, fun j hj => (World.cells?_some h2).2.2 j hj, h5⟩
    have hok : OkAddr (some a) cap := by
      by_cases h0 : cap = 0
      · exact Or.inl ⟨h0, h0⟩
      · have hcell : ∃ v, W.cell? a = some v := by
          by_cases h1 : 0 < len
          · obtain ⟨t, h2, _⟩ := each 0 h1
            have := h2 0 hm0
            rw [show (a.add (0 * m)).add 0 = a by simp [Addr.add]] at this
            exact ⟨_, by rw [this, List.getElem?_eq_getElem (by rw [hf]; exact hm0)]⟩
          · obtain ⟨h3, h4⟩ := hsp rfl
            have h5 := h4 0 (by omega)
            rw [List.getElem?_eq_getElem (by omega), cE, Option.bind_eq_some_iff] at h5
            obtain ⟨cs', h6, _⟩ := h5
            obtain ⟨_, h8, h7⟩ := World.cells?_some h6
            have h9 := h7 0 hm0
            rw [show (a.add ((len + 0) * m)).add 0 = a by simp [Addr.add, show len = 0 by omega]] at h9
            exact ⟨cs'[0]'(by omega), by rw [h9, List.getElem?_eq_getElem (by omega)]⟩
        obtain ⟨v, hv⟩ := hcell
        have := spot_none hv
        obtain ⟨b, off, sp⟩ := a
        simp only at this
        subst this
        exact Or.inr ⟨b, off, rfl⟩
    obtain ⟨l, hl1, hl2⟩ := list_of len each
    refine ⟨l, some a, len, cap, rfl, ⟨hl1.symm, hl, hok, fun i hi => ?_⟩, fun t ht => ?_, ?_⟩
    · have h2 := (hl2 0 (by omega)).1 0 hm0
      rw [show (a.add (0 * m)).add 0 = a by simp [Addr.add]] at h2
      have hsp2 := spot_none (v := (f l[0])[0]'(by rw [hf]; exact hm0)) (by rw [h2]; exact List.getElem?_eq_getElem _)
      obtain ⟨b, off, sp⟩ := a
      simp only at hsp2
      subst hsp2
      refine ⟨b, off, rfl, fun j hj => ?_⟩
      have := (hl2 i hi).1 j (by rw [hf] at hj; exact hj)
      rw [add_plain, add_plain, List.getElem?_eq_getElem hj] at this
      exact this
    · obtain ⟨i, hi, rfl⟩ := List.getElem_of_mem ht
      exact (hl2 i hi).2
    · have e1 : (elems.map (·.1)).length = len := by simp; omega
      have e2 : (elems.map (·.1)).length ≤ ((elems.map (·.1)).length + (rest.map (·.1)).length) * B := Nat.le_trans (Nat.le_add_right _ _) (Nat.le_mul_of_pos_right _ hB)
      omega
end Go.Proofs.YtfjlglefodndjaaGreatDoor

namespace Go.Proofs.YtfjlglefodndjaaGreatDoor
open Go.ChangeShapes Go.WideShapes Go.ChangeAt Go.RowKit

/-! Arguments of type api.Schema. -/
theorem attrFields_are : (Tryz.prog.underlying 91).bind (fun u => match u with | .struct fs => some (fs.toList.map (fun f => (f.type, f.offset))) | _ => none) = some [(9, 0), (3, 1), (26, 2), (3, 3), (3, 4)] := by kernel_rfl
theorem uAttr : ∃ fs : Array Field, Tryz.prog.underlying 91 = some (.struct fs) ∧ fs.toList.map (fun f => (f.type, f.offset)) = [(9, 0), (3, 1), (26, 2), (3, 3), (3, 4)] := by
  have h := attrFields_are
  generalize Tryz.prog.underlying 91 = U at *
  match U, h with
  | some (.struct fs), h => exact ⟨fs, rfl, by simpa using h⟩
theorem schFields_are : (Tryz.prog.underlying 24).bind (fun u => match u with | .struct fs => some (fs.toList.map (fun f => (f.type, f.offset))) | _ => none) = some [(22, 0)] := by kernel_rfl
theorem uSch : ∃ fs : Array Field, Tryz.prog.underlying 24 = some (.struct fs) ∧ fs.toList.map (fun f => (f.type, f.offset)) = [(22, 0)] := by
  have h := schFields_are
  generalize Tryz.prog.underlying 24 = U at *
  match U, h with
  | some (.struct fs), h => exact ⟨fs, rfl, by simpa using h⟩
theorem cAttr : Tryz.prog.cellsOf 91 = 5 := by kernel_rfl
theorem cSch : Tryz.prog.cellsOf 24 = 1 := by kernel_rfl
theorem cAttrs : Tryz.prog.cellsOf 22 = 1 := by kernel_rfl
theorem uAttrs : Tryz.prog.underlying 22 = some (.slice 91) := by kernel_rfl
theorem bAttr : Tryz.prog.bytesOf 91 = 64 := by kernel_rfl
/-- An attribute that came in. -/
theorem attr_arg {H : Type} {enc : TypeId × Value → H} {W : World} (fuel : Nat) (cs : List Value) (x : DataW H × List MemPlace) (h : DataW.trod enc Tryz.prog W 0 (fun _ => true) true fuel 91 cs = some x) (hw : (x.1.weights Tryz.prog 91).all (· ≤ reachBytes) = true) :
    ∃ v : AttrV, cs = v.cells ∧ (IsStrs W v.x.words v.a v.n v.c ∧ v.x.fits) := by
  obtain ⟨fs, uE, are⟩ := uAttr
  obtain ⟨xs, n, rfl, rfl, hlen, hxl, hf⟩ := DataW.trod_struct uE h
  have e6 : fs.size = 5 := by have := congrArg List.length are; simpa using this
  rw [e6] at hxl
  rw [cAttr] at hlen
  obtain ⟨c0, c1, c2, c3, c4, rfl⟩ := list5 cs hlen
  obtain ⟨x0, x1, x2, x3, x4, rfl⟩ := list5 xs hxl
  obtain ⟨f0, g0, t0, o0⟩ := op_field 0 _ _ (by rw [are]; rfl)
  obtain ⟨f1, g1, t1, o1⟩ := op_field 1 _ _ (by rw [are]; rfl)
  obtain ⟨f2, g2, t2, o2⟩ := op_field 2 _ _ (by rw [are]; rfl)
  obtain ⟨f3, g3, t3, o3⟩ := op_field 3 _ _ (by rw [are]; rfl)
  obtain ⟨f4, g4, t4, o4⟩ := op_field 4 _ _ (by rw [are]; rfl)
  have r0 := hf 0 f0 g0
  have r1 := hf 1 f1 g1
  have r2 := hf 2 f2 g2
  have r3 := hf 3 f3 g3
  have r4 := hf 4 f4 g4
  rw [t0, o0, cS] at r0
  rw [t1, o1, cI] at r1
  rw [t2, o2, cSs] at r2
  rw [t3, o3, cI] at r3
  rw [t4, o4, cI] at r4
  simp only [List.drop_zero, List.drop_succ_cons, List.take_succ_cons, List.take_zero, List.getElem?_cons_zero, List.getElem?_cons_succ] at r0 r1 r2 r3 r4
  have hty : fs.toList.map (·.type) = [9, 3, 26, 3, 3] := by
    have := congrArg (List.map Prod.fst) are
    rw [List.map_map] at this
    exact this
  simp only [DataW.weights, uE, hty, List.map_cons, List.map_nil, DataW.weightsEach, List.all_append, Bool.and_eq_true] at hw
  obtain ⟨w0, _, w2, _⟩ := hw
  obtain ⟨s, a0, b0, _⟩ := DataW.trod_string uS r0
  obtain ⟨kind, a1, _, _⟩ := DataW.trod_int uI r1
  obtain ⟨lo, a3, _, _⟩ := DataW.trod_int uI r3
  obtain ⟨hi, a4, _, _⟩ := DataW.trod_int uI r4
  simp only [List.cons.injEq, and_true] at a0 a1 a3 a4
  subst a0 a1 a3 a4
  have hr := reachBytes_lt
  have hss : s.size ≤ 1000000000000000 := by
    rw [b0] at w0
    simp [DataW.weights] at w0
    omega
  obtain ⟨words, aw, nw, cw, rfl, hws, hwz, hwl⟩ := strs_arg r2 w2
  exact ⟨⟨⟨s, kind, words, lo, hi⟩, aw, nw, cw⟩, rfl, hws, hss, hwl, hwz⟩
theorem isSchema_rows {W : World} {avs : List AttrV} {a : Option Addr} {n c : Nat} (h : IsRows W 5 AttrV.cells avs a n c) (hs : ∀ v ∈ avs, IsStrs W v.x.words v.a v.n v.c) : IsSchema W (avs.map (·.x)) (.agg #[.slice a n c]) := by
  refine ⟨a, n, c, rfl, by simp [h.1], h.2.1, h.2.2.1, fun i hi => ?_⟩
  have hi' : i < avs.length := by simpa using hi
  obtain ⟨b, off, e, hc⟩ := h.2.2.2 i hi'
  refine ⟨b, off, e, ?_⟩
  have hl : (avs[i].cells).length = 5 := rfl
  simp only [List.getElem_map]
  exact ⟨avs[i].a, avs[i].n, avs[i].c, hc 0 (by omega), hc 1 (by omega), hc 2 (by omega), hc 3 (by omega), hc 4 (by omega), hs _ (List.getElem_mem hi')⟩
set_option maxRecDepth 100000 in
/-- An argument of type Schema. -/
theorem schema_arg {H : Type} {enc : TypeId × Value → H} {W : World} {v : Value} {d : DataW H} {p : List MemPlace} {ts : List TypeId} {ds : List (DataW H)} {j : Nat} (h : DataW.Trod enc Tryz.prog W 0 (fun _ => true) true 24 v d p) {base : Nat} (hval : Value.okWide Tryz.prog W .any base 24 v)
    (hs : (DataW.weightsEach Tryz.prog ts ds).all (· ≤ reachBytes) = true) (ht : ts[j]? = some 24) (hd : ds[j]? = some d) : ∃ l : List Attr, IsSchema W l v ∧ (∀ x ∈ l, x.fits) ∧ l.length ≤ 1000000000000000 := by
  have hw : (d.weights Tryz.prog 24).all (· ≤ reachBytes) = true := by
    rw [List.all_eq_true]
    intro n hn
    exact List.all_eq_true.1 hs n (DataW.weights_mem_each ht hd n hn)
  obtain ⟨fs, uE, are⟩ := uSch
  obtain ⟨cs0, rfl, _⟩ := okWide_struct uE hval
  obtain ⟨fuel, hf⟩ := h
  simp only [Value.cells] at hf
  generalize hcs : cs0.toList = cs at hf
  obtain rfl : cs0 = cs.toArray := by rw [← hcs]
  obtain ⟨xs, n, rfl, hx, hlen, hxl, hff⟩ := DataW.trod_struct uE hf
  have e1 : fs.size = 1 := by have := congrArg List.length are; simpa using this
  rw [e1] at hxl
  rw [cSch] at hlen
  obtain ⟨c0, rfl⟩ : ∃ c, cs = [c] := by
    match cs, hlen with
    | [c], _ => exact ⟨c, rfl⟩
  obtain ⟨x0, rfl⟩ : ∃ c, xs = [c] := by
    match xs, hxl with
    | [c], _ => exact ⟨c, rfl⟩
  obtain ⟨f0, g0, t0, o0⟩ := op_field 0 _ _ (by rw [are]; rfl)
  have r0 := hff 0 f0 g0
  rw [t0, o0, cAttrs] at r0
  simp only [List.drop_zero, List.take_succ_cons, List.take_zero, List.getElem?_cons_zero] at r0
  have hty : fs.toList.map (·.type) = [22] := by
    have := congrArg (List.map Prod.fst) are
    rw [List.map_map] at this
    exact this
  have hd' : d = .agg [x0.1] := (Prod.mk.inj hx).1
  rw [hd'] at hw
  simp only [DataW.weights, uE, hty, DataW.weightsEach, List.all_append, Bool.and_eq_true] at hw
  obtain ⟨avs, a, n', c, rfl, h1, h2, h3⟩ := rows_arg AttrV.cells (fun _ => rfl) (by omega) uAttrs cAttr bAttr (by omega) (fun k _ cs x g1 g2 => attr_arg k cs x g1 g2) r0 hw.1
  refine ⟨avs.map (·.x), isSchema_rows h1 fun v hv => (h2 v hv).1, fun x hx => ?_, by simp; rw [← h1.1]; exact h3⟩
  obtain ⟨v, hv, rfl⟩ := List.mem_map.1 hx
  exact (h2 v hv).2
end Go.Proofs.YtfjlglefodndjaaGreatDoor

namespace Go.Proofs.YtfjlglefodndjaaGreatDoor
open Go.ChangeShapes Go.WideShapes Go.ChangeAt Go.RowKit

/-! An argument of type Expr, with bounds on the numbers of arguments. -/
theorem bEx : Tryz.prog.bytesOf 29 = 88 := by kernel_rfl
theorem ex_arg2 {H : Type} {enc : TypeId × Value → H} {W : World} : ∀ (fuel : Nat) (cs : List Value) (x : DataW H × List MemPlace), DataW.trod enc Tryz.prog W 0 (fun _ => true) true fuel 29 cs = some x → (x.1.weights Tryz.prog 29).all (· ≤ reachBytes) = true →
    ∃ (e : Ex) (v : ExV), cs = v.cells ∧ IsEx W e v.val ∧ e.fits ∧ e.few ∧ e.slim := by
  intro fuel
  induction fuel using Nat.strongRecOn with
  | _ fuel ih =>
    intro cs x h hw
    obtain ⟨fs, uE, are⟩ := uEx
    obtain ⟨xs, n, rfl, rfl, hlen, hxl, hf⟩ := DataW.trod_struct uE h
    have e6 : fs.size = 6 := by have := congrArg List.length are; simpa using this
    rw [e6] at hxl
    rw [cEx] at hlen
    obtain ⟨c0, c1, c2, c3, c4, c5, rfl⟩ := list6 cs hlen
    obtain ⟨x0, x1, x2, x3, x4, x5, rfl⟩ := list6 xs hxl
    obtain ⟨f0, g0, t0, o0⟩ := op_field 0 _ _ (by rw [are]; rfl)
    obtain ⟨f1, g1, t1, o1⟩ := op_field 1 _ _ (by rw [are]; rfl)
    obtain ⟨f2, g2, t2, o2⟩ := op_field 2 _ _ (by rw [are]; rfl)
    obtain ⟨f3, g3, t3, o3⟩ := op_field 3 _ _ (by rw [are]; rfl)
    obtain ⟨f4, g4, t4, o4⟩ := op_field 4 _ _ (by rw [are]; rfl)
    obtain ⟨f5, g5, t5, o5⟩ := op_field 5 _ _ (by rw [are]; rfl)
    have r0 := hf 0 f0 g0
    have r1 := hf 1 f1 g1
    have r2 := hf 2 f2 g2
    have r3 := hf 3 f3 g3
    have r4 := hf 4 f4 g4
    have r5 := hf 5 f5 g5
    rw [t0, o0, cI] at r0
    rw [t1, o1, cS] at r1
    rw [t2, o2, cSs] at r2
    rw [t3, o3, cI] at r3
    rw [t4, o4, cI] at r4
    rw [t5, o5, cExs] at r5
    simp only [List.drop_zero, List.drop_succ_cons, List.take_succ_cons, List.take_zero, List.getElem?_cons_zero, List.getElem?_cons_succ] at r0 r1 r2 r3 r4 r5
    have hty : fs.toList.map (·.type) = [3, 9, 26, 3, 3, 27] := by
      have := congrArg (List.map Prod.fst) are
      rw [List.map_map] at this
      exact this
    simp only [DataW.weights, uE, hty, List.map_cons, List.map_nil, DataW.weightsEach, List.all_append, Bool.and_eq_true] at hw
    obtain ⟨_, w1, w2, _, _, w5, _⟩ := hw
    obtain ⟨op, a0, _, _⟩ := DataW.trod_int uI r0
    obtain ⟨s, a1, b1, _⟩ := DataW.trod_string uS r1
    obtain ⟨lo, a3, _, _⟩ := DataW.trod_int uI r3
    obtain ⟨hi, a4, _, _⟩ := DataW.trod_int uI r4
    simp only [List.cons.injEq, and_true] at a0 a1 a3 a4
    subst a0 a1 a3 a4
    have hr := reachBytes_lt
    have hss : s.size ≤ 1000000000000000 := by
      rw [b1] at w1
      simp [DataW.weights] at w1
      omega
    obtain ⟨words, aw, nw, cw, rfl, hws, hwz, hwl⟩ := strs_arg r2 w2
    obtain ⟨evs, a, n', c, rfl, q1, q2, q3⟩ := rows_arg (Q := fun v : ExV => ∃ e, IsEx W e v.val ∧ e.fits ∧ e.few ∧ e.slim) ExV.cells exV_len (by omega) uExs cEx bEx (by omega) (fun k hk cs x g1 g2 => by
      obtain ⟨e, v, g3, g4⟩ := ih k (by omega) cs x g1 g2
      exact ⟨v, g3, e, g4⟩) r5 w5
    obtain ⟨l, hl1, hl2⟩ := list_of evs.length (Q := fun i e => ∀ h : i < evs.length, IsEx W e (evs[i]'h).val ∧ e.fits ∧ e.few ∧ e.slim) (fun i hi => by
      obtain ⟨e, he⟩ := q2 _ (List.getElem_mem hi)
      exact ⟨e, fun _ => he⟩)
    have hq : ∀ y ∈ l, y.fits ∧ y.few ∧ y.slim := fun y hy => by
      obtain ⟨i, hi, rfl⟩ := List.getElem_of_mem hy
      exact (hl2 i hi (by omega)).2
    refine ⟨.mk op s words lo hi l, ⟨op, s, aw, nw, cw, lo, hi, a, n', c⟩, rfl, IsEx.mk hws (by rw [hl1]; exact q1.1) q1.2.1 q1.2.2.1 ?_, fits_mk' hss hwz fun y hy => (hq y hy).1, few_mk' hwl fun y hy => (hq y hy).2.1, slim_mk (by rw [hl1, ← q1.1]; exact q3) fun y hy => (hq y hy).2.2⟩
    cases hll : l with
    | nil => unfold ExsD; trivial
    | cons z r =>
      rw [← hll]
      have hpos : 0 < evs.length := by rw [← hl1, hll]; simp
      obtain ⟨b, off, rfl, _⟩ := q1.2.2.2 0 hpos
      refine ExsD.of l off evs hl1 fun i h3 h4 => ⟨fun j hj => ?_, (hl2 i h3 h4).1⟩
      obtain ⟨b', off', e', hc⟩ := q1.2.2.2 i h4
      simp only [Option.some.injEq, Addr.mk.injEq, and_true] at e'
      obtain ⟨rfl, rfl⟩ := e'
      have hj' : j < (evs[i].cells).length := by rw [exV_len]; exact hj
      rw [hc j hj', List.getElem?_eq_getElem hj']
set_option maxRecDepth 100000 in
/-- An argument of type Expr. -/
theorem expr_arg2 {H : Type} {enc : TypeId × Value → H} {W : World} {v : Value} {d : DataW H} {p : List MemPlace} {ts : List TypeId} {ds : List (DataW H)} {j : Nat} (h : DataW.Trod enc Tryz.prog W 0 (fun _ => true) true 29 v d p) {base : Nat} (hval : Value.okWide Tryz.prog W .any base 29 v)
    (hs : (DataW.weightsEach Tryz.prog ts ds).all (· ≤ reachBytes) = true) (ht : ts[j]? = some 29) (hd : ds[j]? = some d) : ∃ (e : Ex), IsEx W e v ∧ e.fits ∧ e.few ∧ e.slim := by
  obtain ⟨fuel, hf⟩ := h
  have hw : (d.weights Tryz.prog 29).all (· ≤ reachBytes) = true := by
    rw [List.all_eq_true]
    intro n hn
    exact List.all_eq_true.1 hs n (DataW.weights_mem_each ht hd n hn)
  obtain ⟨e, x, h1, h2, h3, h4⟩ := ex_arg2 fuel _ _ hf hw
  refine ⟨e, ?_, h3, h4⟩
  obtain ⟨fs, uE, _⟩ := uEx
  obtain ⟨cs, rfl, _⟩ := okWide_struct uE hval
  simp only [Value.cells] at h1
  have : (Value.agg cs) = x.val := by
    have e : cs = x.cells.toArray := by rw [← h1]
    rw [e]; rfl
  rw [this]; exact h2
end Go.Proofs.YtfjlglefodndjaaGreatDoor

namespace Go.Proofs.YtfjlglefodndjaaGreatDoor
open Go.ChangeShapes Go.WideShapes Go.ChangeAt Go.RowKit

/-! Arguments of type []api.Clause. -/
theorem wbFields_are : (Tryz.prog.underlying 77).bind (fun u => match u with | .struct fs => some (fs.toList.map (fun f => (f.type, f.offset))) | _ => none) = some [(9, 0), (29, 1), (36, 7)] := by kernel_rfl
theorem uWb : ∃ fs : Array Field, Tryz.prog.underlying 77 = some (.struct fs) ∧ fs.toList.map (fun f => (f.type, f.offset)) = [(9, 0), (29, 1), (36, 7)] := by
  have h := wbFields_are
  generalize Tryz.prog.underlying 77 = U at *
  match U, h with
  | some (.struct fs), h => exact ⟨fs, rfl, by simpa using h⟩
theorem clFields_are : (Tryz.prog.underlying 38).bind (fun u => match u with | .struct fs => some (fs.toList.map (fun f => (f.type, f.offset))) | _ => none) = some [(3, 0), (9, 1), (29, 2), (36, 8), (3, 9)] := by kernel_rfl
theorem uCl : ∃ fs : Array Field, Tryz.prog.underlying 38 = some (.struct fs) ∧ fs.toList.map (fun f => (f.type, f.offset)) = [(3, 0), (9, 1), (29, 2), (36, 8), (3, 9)] := by
  have h := clFields_are
  generalize Tryz.prog.underlying 38 = U at *
  match U, h with
  | some (.struct fs), h => exact ⟨fs, rfl, by simpa using h⟩
theorem cWb : Tryz.prog.cellsOf 77 = 8 := by kernel_rfl
theorem cWbs : Tryz.prog.cellsOf 36 = 1 := by kernel_rfl
theorem uWbs : Tryz.prog.underlying 36 = some (.slice 77) := by kernel_rfl
theorem bWb : Tryz.prog.bytesOf 77 = 128 := by kernel_rfl
theorem cCl : Tryz.prog.cellsOf 38 = 10 := by kernel_rfl
theorem uCls : Tryz.prog.underlying 25 = some (.slice 38) := by kernel_rfl
theorem bCl : Tryz.prog.bytesOf 38 = 144 := by kernel_rfl
theorem list8 {α : Type} (l : List α) (h : l.length = 8) : ∃ a b c d e f g i, l = [a, b, c, d, e, f, g, i] := by
  rcases l with _ | ⟨a, _ | ⟨b, _ | ⟨c, _ | ⟨d, _ | ⟨e, _ | ⟨f, _ | ⟨g, _ | ⟨i, _ | ⟨j, r⟩⟩⟩⟩⟩⟩⟩⟩⟩ <;> simp at h
  exact ⟨a, b, c, d, e, f, g, i, rfl⟩
theorem list3 {α : Type} (l : List α) (h : l.length = 3) : ∃ a b c, l = [a, b, c] := by
  rcases l with _ | ⟨a, _ | ⟨b, _ | ⟨c, _ | ⟨d, r⟩⟩⟩⟩ <;> simp at h
  exact ⟨a, b, c, rfl⟩
theorem list10 {α : Type} (l : List α) (h : l.length = 10) : ∃ a b c d e f g i j k, l = [a, b, c, d, e, f, g, i, j, k] := by
  rcases l with _ | ⟨a, _ | ⟨b, _ | ⟨c, _ | ⟨d, _ | ⟨e, _ | ⟨f, _ | ⟨g, _ | ⟨i, _ | ⟨j, _ | ⟨k, _ | ⟨m, r⟩⟩⟩⟩⟩⟩⟩⟩⟩⟩⟩ <;> simp at h
  exact ⟨a, b, c, d, e, f, g, i, j, k, rfl⟩
theorem wbs_rows {W : World} {vs : List WbV} {a : Option Addr} {n c : Nat} (h : IsRows W 8 WbV.cells vs a n c) {l : List Wb} (hl : l.length = vs.length) (hw : ∀ i (h1 : i < l.length) (h2 : i < vs.length), IsWb W l[i] vs[i]) : WbsD W l a := by
  cases hll : l with
  | nil => unfold WbsD; trivial
  | cons z r =>
    rw [← hll]
    have hpos : 0 < vs.length := by rw [← hl, hll]; simp
    obtain ⟨b, off, rfl, _⟩ := h.2.2.2 0 hpos
    refine WbsD.of l off vs hl fun i h3 h4 => ?_
    obtain ⟨b', off', e', hc⟩ := h.2.2.2 i h4
    simp only [Option.some.injEq, Addr.mk.injEq, and_true] at e'
    obtain ⟨rfl, rfl⟩ := e'
    obtain ⟨g1, g2, g3, g4, g5, g6⟩ := hw i h3 h4
    exact ⟨g1, fun j hj => hc j hj, g2, g3, g4, g5, g6⟩
/-- What write-backs in a row are. -/
theorem wbs_read {W : World} {vs : List WbV} {a : Option Addr} {n c : Nat} (h : IsRows W 8 WbV.cells vs a n c) (hq : ∀ v ∈ vs, ∃ x : Wb, IsWb W x v ∧ x.fit) : ∃ l : List Wb, n = l.length ∧ n ≤ c ∧ OkAddr a c ∧ WbsD W l a ∧ wbFits l := by
  obtain ⟨l, hl1, hl2⟩ := list_of vs.length (Q := fun i e => ∀ h : i < vs.length, IsWb W e (vs[i]'h) ∧ e.fit) (fun i hi => by
    obtain ⟨e, he⟩ := hq _ (List.getElem_mem hi)
    exact ⟨e, fun _ => he⟩)
  refine ⟨l, by rw [hl1]; exact h.1, h.2.1, h.2.2.1, wbs_rows h hl1 fun i h1 h2 => (hl2 i h1 h2).1, wbFits_of l fun x hx => ?_⟩
  obtain ⟨i, hi, rfl⟩ := List.getElem_of_mem hx
  exact (hl2 i hi (by omega)).2
/-- A write-back that came in. -/
theorem wb_arg {H : Type} {enc : TypeId × Value → H} {W : World} : ∀ (fuel : Nat) (cs : List Value) (x : DataW H × List MemPlace), DataW.trod enc Tryz.prog W 0 (fun _ => true) true fuel 77 cs = some x → (x.1.weights Tryz.prog 77).all (· ≤ reachBytes) = true →
    ∃ v : WbV, cs = v.cells ∧ ∃ y : Wb, IsWb W y v ∧ y.fit := by
  intro fuel
  induction fuel using Nat.strongRecOn with
  | _ fuel ih =>
    intro cs x h hw
    obtain ⟨fs, uE, are⟩ := uWb
    obtain ⟨xs, n, rfl, rfl, hlen, hxl, hf⟩ := DataW.trod_struct uE h
    have e6 : fs.size = 3 := by have := congrArg List.length are; simpa using this
    rw [e6] at hxl
    rw [cWb] at hlen
    obtain ⟨c0, c1, c2, c3, c4, c5, c6, c7, rfl⟩ := list8 cs hlen
    obtain ⟨x0, x1, x2, rfl⟩ := list3 xs hxl
    obtain ⟨f0, g0, t0, o0⟩ := op_field 0 _ _ (by rw [are]; rfl)
    obtain ⟨f1, g1, t1, o1⟩ := op_field 1 _ _ (by rw [are]; rfl)
    obtain ⟨f2, g2, t2, o2⟩ := op_field 2 _ _ (by rw [are]; rfl)
    have r0 := hf 0 f0 g0
    have r1 := hf 1 f1 g1
    have r2 := hf 2 f2 g2
    rw [t0, o0, cS] at r0
    rw [t1, o1, cEx] at r1
    rw [t2, o2, cWbs] at r2
    simp only [List.drop_zero, List.drop_succ_cons, List.take_succ_cons, List.take_zero, List.getElem?_cons_zero, List.getElem?_cons_succ] at r0 r1 r2
    have hty : fs.toList.map (·.type) = [9, 29, 36] := by
      have := congrArg (List.map Prod.fst) are
      rw [List.map_map] at this
      exact this
    rw [DataW.weights, uE] at hw
    simp only [hty, List.map_cons, List.map_nil, DataW.weightsEach, List.all_append, Bool.and_eq_true] at hw
    obtain ⟨w0, w1, w2, _⟩ := hw
    obtain ⟨s, a0, b0, _⟩ := DataW.trod_string uS r0
    simp only [List.cons.injEq, and_true] at a0
    subst a0
    have hr := reachBytes_lt
    have hss : s.size ≤ 1000000000000000 := by
      rw [b0] at w0
      simp [DataW.weights] at w0
      omega
    obtain ⟨e, ev, he, hx1, hx2, hx3, hx4⟩ := ex_arg2 _ _ _ r1 w1
    obtain ⟨vs, a, n', c, rfl, q1, q2, q3⟩ := rows_arg (Q := fun v : WbV => ∃ x, IsWb W x v ∧ x.fit) WbV.cells WbV.len (by omega) uWbs cWb bWb (by omega) (fun k hk cs x g1 g2 => ih k (by omega) cs x g1 g2) r2 w2
    obtain ⟨l, hn, hnc, hoa, hd, hfit⟩ := wbs_read q1 q2
    simp only [ExV.cells, List.cons.injEq, and_true] at he
    obtain ⟨rfl, rfl, rfl, rfl, rfl, rfl⟩ := he
    exact ⟨⟨s, ev, a, n', c⟩, rfl, .mk s e l, ⟨rfl, hx1, hn, hnc, hoa, hd⟩, hss, hx2, hx3, hx4, by show l.length ≤ _; omega, hfit⟩
/-- A clause that came in. -/
theorem cla_arg {H : Type} {enc : TypeId × Value → H} {W : World} (fuel : Nat) (cs : List Value) (x : DataW H × List MemPlace) (h : DataW.trod enc Tryz.prog W 0 (fun _ => true) true fuel 38 cs = some x) (hw : (x.1.weights Tryz.prog 38).all (· ≤ reachBytes) = true) :
    ∃ v : ClV, cs = v.cells ∧ ∃ y : Cla, IsCla W y v ∧ y.fit := by
  obtain ⟨fs, uE, are⟩ := uCl
  obtain ⟨xs, n, rfl, rfl, hlen, hxl, hf⟩ := DataW.trod_struct uE h
  have e6 : fs.size = 5 := by have := congrArg List.length are; simpa using this
  rw [e6] at hxl
  rw [cCl] at hlen
  obtain ⟨c0, c1, c2, c3, c4, c5, c6, c7, c8, c9, rfl⟩ := list10 cs hlen
  obtain ⟨x0, x1, x2, x3, x4, rfl⟩ := list5 xs hxl
  obtain ⟨f0, g0, t0, o0⟩ := op_field 0 _ _ (by rw [are]; rfl)
  obtain ⟨f1, g1, t1, o1⟩ := op_field 1 _ _ (by rw [are]; rfl)
  obtain ⟨f2, g2, t2, o2⟩ := op_field 2 _ _ (by rw [are]; rfl)
  obtain ⟨f3, g3, t3, o3⟩ := op_field 3 _ _ (by rw [are]; rfl)
  obtain ⟨f4, g4, t4, o4⟩ := op_field 4 _ _ (by rw [are]; rfl)
  have r0 := hf 0 f0 g0
  have r1 := hf 1 f1 g1
  have r2 := hf 2 f2 g2
  have r3 := hf 3 f3 g3
  have r4 := hf 4 f4 g4
  rw [t0, o0, cI] at r0
  rw [t1, o1, cS] at r1
  rw [t2, o2, cEx] at r2
  rw [t3, o3, cWbs] at r3
  rw [t4, o4, cI] at r4
  simp only [List.drop_zero, List.drop_succ_cons, List.take_succ_cons, List.take_zero, List.getElem?_cons_zero, List.getElem?_cons_succ] at r0 r1 r2 r3 r4
  have hty : fs.toList.map (·.type) = [3, 9, 29, 36, 3] := by
    have := congrArg (List.map Prod.fst) are
    rw [List.map_map] at this
    exact this
  rw [DataW.weights, uE] at hw
  simp only [hty, List.map_cons, List.map_nil, DataW.weightsEach, List.all_append, Bool.and_eq_true] at hw
  obtain ⟨_, w1, w2, w3, _⟩ := hw
  obtain ⟨kind, a0, _, _⟩ := DataW.trod_int uI r0
  obtain ⟨s, a1, b1, _⟩ := DataW.trod_string uS r1
  obtain ⟨am, a4, _, _⟩ := DataW.trod_int uI r4
  simp only [List.cons.injEq, and_true] at a0 a1 a4
  subst a0 a1 a4
  have hr := reachBytes_lt
  have hss : s.size ≤ 1000000000000000 := by
    rw [b1] at w1
    simp [DataW.weights] at w1
    omega
  obtain ⟨e, ev, he, hx1, hx2, hx3, hx4⟩ := ex_arg2 _ _ _ r2 w2
  obtain ⟨vs, a, n', c, rfl, q1, q2, q3⟩ := rows_arg (Q := fun v : WbV => ∃ x, IsWb W x v ∧ x.fit) WbV.cells WbV.len (by omega) uWbs cWb bWb (by omega) (fun k hk cs x g1 g2 => wb_arg k cs x g1 g2) r3 w3
  obtain ⟨l, hn, hnc, hoa, hd, hfit⟩ := wbs_read q1 q2
  simp only [ExV.cells, List.cons.injEq, and_true] at he
  obtain ⟨rfl, rfl, rfl, rfl, rfl, rfl⟩ := he
  exact ⟨⟨kind, s, ev, a, n', c, am⟩, rfl, ⟨kind, s, e, l, am⟩, ⟨rfl, rfl, hx1, hn, hnc, hoa, hd, rfl⟩, hss, hx2, hx3, hx4, by show l.length ≤ _; omega, hfit⟩
set_option maxRecDepth 100000 in
/-- An argument of type []api.Clause. -/
theorem clas_arg {H : Type} {enc : TypeId × Value → H} {W : World} {base : Nat} {v : Value} {d : DataW H} {p : List MemPlace} {ts : List TypeId} {ds : List (DataW H)} {j : Nat} (hval : Value.okWide Tryz.prog W .any base 25 v) (h : DataW.Trod enc Tryz.prog W 0 (fun _ => true) true 25 v d p)
    (hs : (DataW.weightsEach Tryz.prog ts ds).all (· ≤ reachBytes) = true) (ht : ts[j]? = some 25) (hd : ds[j]? = some d) : ∃ l a n c, v = .slice a n c ∧ IsClas W l a n c ∧ (∀ x ∈ l, x.fit) ∧ n ≤ 1000000000000000 := by
  have hw : (d.weights Tryz.prog 25).all (· ≤ reachBytes) = true := by
    rw [List.all_eq_true]
    intro n hn
    exact List.all_eq_true.1 hs n (DataW.weights_mem_each ht hd n hn)
  obtain ⟨a, n, c, rfl⟩ := okWide_slice uCls hval
  obtain ⟨fuel, hf⟩ := h
  obtain ⟨vs, a', n', c', e', q1, q2, q3⟩ := rows_arg (Q := fun v : ClV => ∃ x, IsCla W x v ∧ x.fit) ClV.cells ClV.len (by omega) uCls cCl bCl (by omega) (fun k hk cs x g1 g2 => cla_arg k cs x g1 g2) hf hw
  simp only [Value.slice.injEq] at e'
  obtain ⟨rfl, rfl, rfl⟩ := e'
  obtain ⟨l, hl1, hl2⟩ := list_of vs.length (Q := fun i e => ∀ h : i < vs.length, IsCla W e (vs[i]'h) ∧ e.fit) (fun i hi => by
    obtain ⟨e, he⟩ := q2 _ (List.getElem_mem hi)
    exact ⟨e, fun _ => he⟩)
  refine ⟨l, a, n, c, rfl, ⟨vs, q1, hl1, fun i h1 h2 => (hl2 i h1 h2).1⟩, fun x hx => ?_, q3⟩
  obtain ⟨i, hi, rfl⟩ := List.getElem_of_mem hx
  exact (hl2 i hi (by omega)).2
end Go.Proofs.YtfjlglefodndjaaGreatDoor
