/-
  Texts of the claim, joined: LaidT, ExArg, RowsArg, SchArg, ClmArg, REvE.
-/
import Derived.Test.YtpkljcgihobaiaaGreatEf19
import Derived.SliceStrings
namespace Go.Proofs.YtpkljcgihobaiaaGreat
set_option maxRecDepth 100000
set_option maxHeartbeats 32000000
open Go.ChangeShapes Go.WideShapes Go.ChangeAt Go.WideMaps Go.WideElems Go.RowKit
theorem uS : Tryz.prog.underlying 9 = some .string := by kernel_rfl
theorem op_field {opFields : Array Field} (j : Nat) (t : TypeId) (o : Nat) (h : (opFields.toList.map (fun f => (f.type, f.offset)))[j]? = some (t, o)) : ∃ f, opFields[j]? = some f /\ f.type = t /\ f.offset = o := by
 rw [List.getElem?_map] at h
 cases hf : opFields.toList[j]? with
 | none => rw [hf] at h; cases h
 | some f =>
  rw [hf] at h
  simp only [Option.map_some, Option.some.injEq, Prod.mk.injEq] at h
  exact ⟨f, by simpa using hf, h.1, h.2⟩
theorem list5 {α : Type} (l : List α) (h : l.length = 5) : ∃ a b c d e, l = [a, b, c, d, e] := by
 rcases l with _ | ⟨a, _ | ⟨b, _ | ⟨c, _ | ⟨d, _ | ⟨e, _ | ⟨f, r⟩⟩⟩⟩⟩⟩ <;> simp at h
 exact ⟨a, b, c, d, e, rfl⟩
open Go.ChangeShapes Go.WideShapes Go.ChangeAt Go.RowKit
theorem cSs : Tryz.prog.cellsOf 104 = 1 := by kernel_rfl
theorem uSs : Tryz.prog.underlying 104 = some (.slice 9) := by kernel_rfl
theorem bStr : Tryz.prog.bytesOf 9 = 16 := by kernel_rfl
theorem spot_none {W : World} {a : Addr} {v : Value} (h : W.cell? a = some v) : a.spot = none := by
 cases hs : a.spot with
 | none => rfl
 | some x =>
  simp only [World.cell?, hs] at h
  split at h <;> simp at h
theorem add_plain (b off i : Nat) : (⟨b, off, none⟩ : Addr).add i = ⟨b, off + i, none⟩ := by
 unfold Addr.add
 split <;> simp_all
theorem list_of {α : Type} {Q : Nat -> α -> Prop} : (n : Nat) -> (∀ i, i < n -> ∃ x, Q i x) -> ∃ l : List α, l.length = n /\ ∀ i (h : i < l.length), Q i l[i]
 | 0, _ => ⟨[], rfl, fun i h => by simp at h⟩
 | n + 1, h => by
  obtain ⟨l, h1, h2⟩ := list_of n (fun i hi => h i (by omega))
  obtain ⟨x, hx⟩ := h n (by omega)
  refine ⟨l ++ [x], by simp [h1], fun i hi => ?_⟩
  by_cases e : i < l.length
  ·rw [List.getElem_append_left e]; exact h2 i e
  have : i = n := by simp at hi; omega
  subst this
  rw [List.getElem_append_right (by omega)]
  simpa using hx
theorem strs_arg {H : Type} {enc : TypeId × Value -> H} {W : World} {n : Nat} {c : Value} {y : DataW H × List MemPlace} (h : DataW.trod enc Tryz.prog W 0 (fun _ => true) true n 104 [c] = some y) (hw : (y.1.weights Tryz.prog 104).all (· <= reachBytes) = true) :
  ∃ (l : ZB) (a : OA) (m k : Nat), c = .slice a m k /\ IsStrs W l a m k /\ (∀ x ∈ l, x.size <= 1000000000000000) /\ l.length <= 1000000000000000 := by
 have hr := reachBytes_lt
 rcases open_strings uSs uS cS h with ⟨hc, _⟩ | ⟨a, len, cap, ss, hc, _, hl, hm, hz, hx, hcell, hsz⟩
 ·simp at hc
  exact ⟨[], none, 0, 0, hc, ⟨rfl, by omega, Or.inl ⟨rfl, rfl⟩, fun i hi => by simp at hi⟩, by simp, by simp⟩
 simp at hc
 subst hc
 simp only [if_true] at hz
 subst hx
 have hw' := hw
 simp only [DataW.weights, uSs, List.all_cons, Bool.and_eq_true, decide_eq_true_eq, List.all_append, bStr] at hw'
 obtain ⟨hw1, hw2, _⟩ := hw'
 have hlen : (strs (H := H) (ss.take len)).length = len := by simp [strs]; omega
 have hdrop : (strs (H := H) (ss.drop len)).length = cap - len := by simp [strs]; omega
 refine ⟨ss.take len, some a, len, cap, rfl, ⟨by simp; omega, hl, ?_, fun i hi => ?_⟩, fun x hx => ?_, by simp; omega⟩
 ·by_cases h0 : cap = 0
  ·exact Or.inl ⟨h0, h0⟩
  have h1 := hcell 0 (by omega)
  rw [show a.add 0 = a by simp [Addr.add]] at h1
  have := spot_none h1
  obtain ⟨b, off, sp⟩ := a
  simp only at this
  subst this
  exact Or.inr ⟨b, off, rfl⟩
 ·have hi' : i < len := by simp at hi; omega
  have h1 := hcell 0 (by omega)
  rw [show a.add 0 = a by simp [Addr.add]] at h1
  have hsp := spot_none h1
  obtain ⟨b, off, sp⟩ := a
  simp only at hsp
  subst hsp
  have h2 := hcell i (by omega)
  rw [add_plain] at h2
  refine ⟨b, off, rfl, ?_⟩
  rw [h2]
  simp [List.getD, show i < ss.length by omega]
 have hmem : ∀ (l : ZB), (DataW.weightsAll Tryz.prog 9 (strs (H := H) l)).all (· <= reachBytes) = true -> ∀ x ∈ l, x.size <= reachBytes := by
  intro l
  induction l with
  | nil => intro _ x hx; simp at hx
  | cons y r ih =>
   intro hall x hx
   simp only [strs, List.map_cons, DataW.weightsAll, List.all_append, Bool.and_eq_true] at hall
   rcases List.mem_cons.1 hx with rfl | hx
   ·have := hall.1
    simp [DataW.weights] at this
    exact this
   exact ih hall.2 x hx
 have := hmem _ hw2 x hx
 omega
theorem weights_each {H : Type} {tE : TypeId} : ∀ (l : List (DataW H × List MemPlace)), (DataW.weightsAll Tryz.prog tE (l.map (·.1))).all (· <= reachBytes) = true -> ∀ y ∈ l, (y.1.weights Tryz.prog tE).all (· <= reachBytes) = true := by
 intro l
 induction l with
 | nil => intro _ y hy; simp at hy
 | cons z r ih2 =>
  intro h1 y hy
  simp only [List.map_cons, DataW.weightsAll, List.all_append, Bool.and_eq_true] at h1
  rcases List.mem_cons.1 hy with rfl | hy
  ·exact h1.1
  exact ih2 h1.2 y hy
theorem rows_arg {α : Type} {H : Type} {enc : TypeId × Value -> H} {W : World} {tS tE : TypeId} {m : Nat} (f : α -> List Value) (hf : ∀ y, (f y).length = m) (hm0 : 0 < m) (uSl : Tryz.prog.underlying tS = some (.slice tE)) (cE : Tryz.prog.cellsOf tE = m) {B : Nat} (bE : Tryz.prog.bytesOf tE = B) (hB : 0 < B) {Q : α -> Prop} {fuel : Nat}
  (el : ∀ k, k < fuel -> ∀ (cs : List Value) (x : DataW H × List MemPlace), DataW.trod enc Tryz.prog W 0 (fun _ => true) true k tE cs = some x -> (x.1.weights Tryz.prog tE).all (· <= reachBytes) = true -> ∃ y, cs = f y /\ Q y)
  {c : Value} {y : DataW H × List MemPlace} (h : DataW.trod enc Tryz.prog W 0 (fun _ => true) true fuel tS [c] = some y) (hw : (y.1.weights Tryz.prog tS).all (· <= reachBytes) = true) :
  ∃ ys a n k, c = .slice a n k /\ IsRows W m f ys a n k /\ (∀ z ∈ ys, Q z) /\ n <= 1000000000000000 := by
 have hr := reachBytes_lt
 rcases DataW.trod_slice uSl h with ⟨hc5, _⟩ | ⟨a, len, cap, elems, rest, k, hk, hc5, hx5, _, hl, hm, hel, hev, hsp, _⟩
 ·simp only [List.cons.injEq, and_true] at hc5
  subst hc5
  exact ⟨[], none, 0, 0, rfl, ⟨rfl, Nat.le_refl 0, Or.inl ⟨rfl, rfl⟩, fun i hi => by simp at hi⟩, by simp, by omega⟩
 simp only [List.cons.injEq, and_true] at hc5
 subst hc5
 rw [hx5] at hw
 simp only [DataW.weights, uSl, List.all_cons, List.all_append, Bool.and_eq_true, decide_eq_true_eq, bE] at hw
 obtain ⟨w5, w6, _⟩ := hw
 have each : ∀ i, i < len -> ∃ t : α, (∀ j, j < m -> W.cell? ((a.add (i * m)).add j) = (f t)[j]?) /\ Q t := by
  intro i hi
  have h1 := hev i hi
  rw [List.getElem?_eq_getElem (by omega), cE, Option.bind_eq_some_iff] at h1
  obtain ⟨cs', h2, h3⟩ := h1
  obtain ⟨t, h4, h5⟩ := el k (by omega) cs' _ h3 (weights_each elems w6 _ (List.getElem_mem _))
  subst h4
  exact ⟨t, fun j hj => (World.cells?_some h2).2.2 j hj, h5⟩
 have hok : OkAddr (some a) cap := by
  by_cases h0 : cap = 0
  ·exact Or.inl ⟨h0, h0⟩
  have hcell : ∃ v, W.cell? a = some v := by
   by_cases h1 : 0 < len
   ·obtain ⟨t, h2, _⟩ := each 0 h1
    have := h2 0 hm0
    rw [show (a.add (0 * m)).add 0 = a by simp [Addr.add]] at this
    exact ⟨_, by rw [this, List.getElem?_eq_getElem (by rw [hf]; exact hm0)]⟩
   obtain ⟨h3, h4⟩ := hsp rfl
   have h5 := h4 0 (by omega)
   rw [List.getElem?_eq_getElem (by omega), cE, Option.bind_eq_some_iff] at h5
   obtain ⟨cs', h6, _⟩ := h5
   obtain ⟨_, h8, h7⟩ := World.cells?_some h6
   have h9 := h7 0 hm0
   rw [show (a.add ((len + 0) * m)).add 0 = a by simp [Addr.add, show len = 0 by omega]] at h9
   exact ⟨cs'[0]'(by omega), by rw [h9, List.getElem?_eq_getElem (by omega)]⟩
  obtain ⟨v, hv⟩ := hcell
  have := spot_none hv
  obtain ⟨b, off, sp⟩ := a
  simp only at this
  subst this
  exact Or.inr ⟨b, off, rfl⟩
 obtain ⟨l, hl1, hl2⟩ := list_of len each
 refine ⟨l, some a, len, cap, rfl, ⟨hl1.symm, hl, hok, fun i hi => ?_⟩, fun t ht => ?_, ?_⟩
 ·have h2 := (hl2 0 (by omega)).1 0 hm0
  rw [show (a.add (0 * m)).add 0 = a by simp [Addr.add]] at h2
  have hsp2 := spot_none (v := (f l[0])[0]'(by rw [hf]; exact hm0)) (by rw [h2]; exact List.getElem?_eq_getElem _)
  obtain ⟨b, off, sp⟩ := a
  simp only at hsp2
  subst hsp2
  refine ⟨b, off, rfl, fun j hj => ?_⟩
  have := (hl2 i hi).1 j (by rw [hf] at hj; exact hj)
  rw [add_plain, add_plain, List.getElem?_eq_getElem hj] at this
  exact this
 ·obtain ⟨i, hi, rfl⟩ := List.getElem_of_mem ht
  exact (hl2 i hi).2
 have e1 : (elems.map (·.1)).length = len := by simp; omega
 have e2 : (elems.map (·.1)).length <= ((elems.map (·.1)).length + (rest.map (·.1)).length) * B := Nat.le_trans (Nat.le_add_right _ _) (Nat.le_mul_of_pos_right _ hB)
 omega
theorem attrFields_are : (Tryz.prog.underlying 106).bind (fun u => match u with | .struct fs => some (fs.toList.map (fun f => (f.type, f.offset))) | _ => none) = some [(9, 0), (3, 1), (104, 2), (3, 3), (3, 4)] := by kernel_rfl
theorem uAttr : ∃ fs : Array Field, Tryz.prog.underlying 106 = some (.struct fs) /\ fs.toList.map (fun f => (f.type, f.offset)) = [(9, 0), (3, 1), (104, 2), (3, 3), (3, 4)] := by
 have h := attrFields_are
 generalize Tryz.prog.underlying 106 = U at *
 match U, h with
 | some (.struct fs), h => exact ⟨fs, rfl, by simpa using h⟩
theorem schFields_are : (Tryz.prog.underlying 24).bind (fun u => match u with | .struct fs => some (fs.toList.map (fun f => (f.type, f.offset))) | _ => none) = some [(22, 0)] := by kernel_rfl
theorem uSch : ∃ fs : Array Field, Tryz.prog.underlying 24 = some (.struct fs) /\ fs.toList.map (fun f => (f.type, f.offset)) = [(22, 0)] := by
 have h := schFields_are
 generalize Tryz.prog.underlying 24 = U at *
 match U, h with
 | some (.struct fs), h => exact ⟨fs, rfl, by simpa using h⟩
theorem cAttr : Tryz.prog.cellsOf 106 = 5 := by kernel_rfl
theorem cSch : Tryz.prog.cellsOf 24 = 1 := by kernel_rfl
theorem cAttrs : Tryz.prog.cellsOf 22 = 1 := by kernel_rfl
theorem uAttrs : Tryz.prog.underlying 22 = some (.slice 106) := by kernel_rfl
theorem bAttr : Tryz.prog.bytesOf 106 = 64 := by kernel_rfl
theorem attr_arg {H : Type} {enc : TypeId × Value -> H} {W : World} (fuel : Nat) (cs : List Value) (x : DataW H × List MemPlace) (h : DataW.trod enc Tryz.prog W 0 (fun _ => true) true fuel 106 cs = some x) (hw : (x.1.weights Tryz.prog 106).all (· <= reachBytes) = true) :
  ∃ v : AttrV, cs = v.cells /\ (IsStrs W v.x.words v.a v.n v.c /\ v.x.fits) := by
 obtain ⟨fs, uE, are⟩ := uAttr
 obtain ⟨xs, n, rfl, rfl, hlen, hxl, hf⟩ := DataW.trod_struct uE h
 have e6 : fs.size = 5 := by have := congrArg List.length are; simpa using this
 rw [e6] at hxl
 rw [cAttr] at hlen
 obtain ⟨c0, c1, c2, c3, c4, rfl⟩ := list5 cs hlen
 obtain ⟨x0, x1, x2, x3, x4, rfl⟩ := list5 xs hxl
 obtain ⟨f0, g0, t0, o0⟩ := op_field 0 _ _ (by rw [are]; rfl)
 obtain ⟨f1, g1, t1, o1⟩ := op_field 1 _ _ (by rw [are]; rfl)
 obtain ⟨f2, g2, t2, o2⟩ := op_field 2 _ _ (by rw [are]; rfl)
 obtain ⟨f3, g3, t3, o3⟩ := op_field 3 _ _ (by rw [are]; rfl)
 obtain ⟨f4, g4, t4, o4⟩ := op_field 4 _ _ (by rw [are]; rfl)
 have r0 := hf 0 f0 g0
 have r1 := hf 1 f1 g1
 have r2 := hf 2 f2 g2
 have r3 := hf 3 f3 g3
 have r4 := hf 4 f4 g4
 rw [t0, o0, cS] at r0
 rw [t1, o1, cI] at r1
 rw [t2, o2, cSs] at r2
 rw [t3, o3, cI] at r3
 rw [t4, o4, cI] at r4
 simp only [List.drop_zero, List.drop_succ_cons, List.take_succ_cons, List.take_zero, List.getElem?_cons_zero, List.getElem?_cons_succ] at r0 r1 r2 r3 r4
 have hty : fs.toList.map (·.type) = [9, 3, 104, 3, 3] := by
  have := congrArg (List.map Prod.fst) are
  rw [List.map_map] at this
  exact this
 simp only [DataW.weights, uE, hty, List.map_cons, List.map_nil, DataW.weightsEach, List.all_append, Bool.and_eq_true] at hw
 obtain ⟨w0, _, w2, _⟩ := hw
 obtain ⟨s, a0, b0, _⟩ := DataW.trod_string uS r0
 obtain ⟨kind, a1, _, _⟩ := DataW.trod_int uI r1
 obtain ⟨lo, a3, _, _⟩ := DataW.trod_int uI r3
 obtain ⟨hi, a4, _, _⟩ := DataW.trod_int uI r4
 simp only [List.cons.injEq, and_true] at a0 a1 a3 a4
 subst a0 a1 a3 a4
 have hr := reachBytes_lt
 have hss : s.size <= 1000000000000000 := by
  rw [b0] at w0
  simp [DataW.weights] at w0
  omega
 obtain ⟨words, aw, nw, cw, rfl, hws, hwz, hwl⟩ := strs_arg r2 w2
 exact ⟨⟨⟨s, kind, words, lo, hi⟩, aw, nw, cw⟩, rfl, hws, hss, hwl, hwz⟩
theorem isSchema_rows {W : World} {avs : List AttrV} {a : OA} {n c : Nat} (h : IsRows W 5 AttrV.cells avs a n c) (hs : ∀ v ∈ avs, IsStrs W v.x.words v.a v.n v.c) : IsSchema W (avs.map (·.x)) (.agg #[.slice a n c]) := by
 refine ⟨a, n, c, rfl, by simp [h.1], h.2.1, h.2.2.1, fun i hi => ?_⟩
 have hi' : i < avs.length := by simpa using hi
 obtain ⟨b, off, e, hc⟩ := h.2.2.2 i hi'
 refine ⟨b, off, e, ?_⟩
 have hl : (avs[i].cells).length = 5 := rfl
 simp only [List.getElem_map]
 exact ⟨avs[i].a, avs[i].n, avs[i].c, hc 0 (by omega), hc 1 (by omega), hc 2 (by omega), hc 3 (by omega), hc 4 (by omega), hs _ (List.getElem_mem hi')⟩
theorem schema_arg {H : Type} {enc : TypeId × Value -> H} {W : World} {v : Value} {d : DataW H} {p : List MemPlace} {ts : List TypeId} {ds : List (DataW H)} {j : Nat} (h : DataW.Trod enc Tryz.prog W 0 (fun _ => true) true 24 v d p) {base : Nat} (hval : Value.okWide Tryz.prog W .any base 24 v)
  (hs : (DataW.weightsEach Tryz.prog ts ds).all (· <= reachBytes) = true) (ht : ts[j]? = some 24) (hd : ds[j]? = some d) : ∃ l : List Attr, IsSchema W l v /\ (∀ x ∈ l, x.fits) /\ l.length <= 1000000000000000 := by
 have hw : (d.weights Tryz.prog 24).all (· <= reachBytes) = true := by
  rw [List.all_eq_true]
  intro n hn
  exact List.all_eq_true.1 hs n (DataW.weights_mem_each ht hd n hn)
 obtain ⟨fs, uE, are⟩ := uSch
 obtain ⟨cs0, rfl, _⟩ := okWide_struct uE hval
 obtain ⟨fuel, hf⟩ := h
 simp only [Value.cells] at hf
 generalize hcs : cs0.toList = cs at hf
 obtain rfl : cs0 = cs.toArray := by rw [<- hcs]
 obtain ⟨xs, n, rfl, hx, hlen, hxl, hff⟩ := DataW.trod_struct uE hf
 have e1 : fs.size = 1 := by have := congrArg List.length are; simpa using this
 rw [e1] at hxl
 rw [cSch] at hlen
 obtain ⟨c0, rfl⟩ : ∃ c, cs = [c] := by
  match cs, hlen with
  | [c], _ => exact ⟨c, rfl⟩
 obtain ⟨x0, rfl⟩ : ∃ c, xs = [c] := by
  match xs, hxl with
  | [c], _ => exact ⟨c, rfl⟩
 obtain ⟨f0, g0, t0, o0⟩ := op_field 0 _ _ (by rw [are]; rfl)
 have r0 := hff 0 f0 g0
 rw [t0, o0, cAttrs] at r0
 simp only [List.drop_zero, List.take_succ_cons, List.take_zero, List.getElem?_cons_zero] at r0
 have hty : fs.toList.map (·.type) = [22] := by
  have := congrArg (List.map Prod.fst) are
  rw [List.map_map] at this
  exact this
 have hd' : d = .agg [x0.1] := (Prod.mk.inj hx).1
 rw [hd'] at hw
 simp only [DataW.weights, uE, hty, DataW.weightsEach, List.all_append, Bool.and_eq_true] at hw
 obtain ⟨avs, a, n', c, rfl, h1, h2, h3⟩ := rows_arg AttrV.cells (fun _ => rfl) (by omega) uAttrs cAttr bAttr (by omega) (fun k _ cs x g1 g2 => attr_arg k cs x g1 g2) r0 hw.1
 refine ⟨avs.map (·.x), isSchema_rows h1 fun v hv => (h2 v hv).1, fun x hx => ?_, by simp; rw [<- h1.1]; exact h3⟩
 obtain ⟨v, hv, rfl⟩ := List.mem_map.1 hx
 exact (h2 v hv).2
theorem CItFields_are : (Tryz.prog.underlying 72).bind (fun u => match u with | .struct fs => some (fs.toList.map (fun f => (f.type, f.offset))) | _ => none) = some [(31, 0), (3, 1), (3, 2), (3, 3)] := by kernel_rfl
theorem uCIt : ∃ fs : Array Field, Tryz.prog.underlying 72 = some (.struct fs) /\ fs.toList.map (fun f => (f.type, f.offset)) = [(31, 0), (3, 1), (3, 2), (3, 3)] := by
 have h := CItFields_are
 generalize Tryz.prog.underlying 72 = U at *
 match U, h with
 | some (.struct fs), h => exact ⟨fs, rfl, by simpa using h⟩
theorem cCIt : Tryz.prog.cellsOf 72 = 4 := by kernel_rfl
theorem CEvFields_are : (Tryz.prog.underlying 30).bind (fun u => match u with | .struct fs => some (fs.toList.map (fun f => (f.type, f.offset))) | _ => none) = some [(3, 0), (3, 1), (3, 2), (28, 3), (3, 4), (3, 5), (3, 6)] := by kernel_rfl
theorem uCEv : ∃ fs : Array Field, Tryz.prog.underlying 30 = some (.struct fs) /\ fs.toList.map (fun f => (f.type, f.offset)) = [(3, 0), (3, 1), (3, 2), (28, 3), (3, 4), (3, 5), (3, 6)] := by
 have h := CEvFields_are
 generalize Tryz.prog.underlying 30 = U at *
 match U, h with
 | some (.struct fs), h => exact ⟨fs, rfl, by simpa using h⟩
theorem cCEv : Tryz.prog.cellsOf 30 = 7 := by kernel_rfl
theorem CClmFields_are : (Tryz.prog.underlying 27).bind (fun u => match u with | .struct fs => some (fs.toList.map (fun f => (f.type, f.offset))) | _ => none) = some [(3, 0), (3, 1), (3, 2), (3, 3), (3, 4), (3, 5), (25, 6)] := by kernel_rfl
theorem uCClm : ∃ fs : Array Field, Tryz.prog.underlying 27 = some (.struct fs) /\ fs.toList.map (fun f => (f.type, f.offset)) = [(3, 0), (3, 1), (3, 2), (3, 3), (3, 4), (3, 5), (25, 6)] := by
 have h := CClmFields_are
 generalize Tryz.prog.underlying 27 = U at *
 match U, h with
 | some (.struct fs), h => exact ⟨fs, rfl, by simpa using h⟩
theorem cCClm : Tryz.prog.cellsOf 27 = 7 := by kernel_rfl
theorem uCIts : Tryz.prog.underlying 28 = some (.slice 72) := by kernel_rfl
theorem uCEvs : Tryz.prog.underlying 25 = some (.slice 30) := by kernel_rfl
theorem uCInts : Tryz.prog.underlying 31 = some (.slice 3) := by kernel_rfl
theorem uCInt : Tryz.prog.underlying 3 = some (.int .i64) := by kernel_rfl
theorem cCIts : Tryz.prog.cellsOf 28 = 1 := by kernel_rfl
theorem cCEvs : Tryz.prog.cellsOf 25 = 1 := by kernel_rfl
theorem cCInts : Tryz.prog.cellsOf 31 = 1 := by kernel_rfl
theorem cCInt : Tryz.prog.cellsOf 3 = 1 := by kernel_rfl
theorem bCIt : Tryz.prog.bytesOf 72 = 48 := by kernel_rfl
theorem bCEv : Tryz.prog.bytesOf 30 = 72 := by kernel_rfl
theorem bCInt : Tryz.prog.bytesOf 3 = 8 := by kernel_rfl
theorem listC4 {α : Type} (l : List α) (h : l.length = 4) : ∃ a b c d, l = [a, b, c, d] := by
 rcases l with _ | ⟨a, _ | ⟨b, _ | ⟨c, _ | ⟨d, _ | ⟨j, r⟩⟩⟩⟩⟩ <;> simp at h
 exact ⟨a, b, c, d, rfl⟩
theorem listC7 {α : Type} (l : List α) (h : l.length = 7) : ∃ a b c d e f g, l = [a, b, c, d, e, f, g] := by
 rcases l with _ | ⟨a, _ | ⟨b, _ | ⟨c, _ | ⟨d, _ | ⟨e, _ | ⟨f, _ | ⟨g, _ | ⟨j, r⟩⟩⟩⟩⟩⟩⟩⟩ <;> simp at h
 exact ⟨a, b, c, d, e, f, g, rfl⟩
theorem intF_rows {W : World} {l : ZI} {a : OA} {n c : Nat} (h : IsRows W 1 intCells l a n c) : IsIntF W l a n := by
 refine ⟨h.1, fun i hi => ?_⟩
 obtain ⟨b, off, e, hc⟩ := h.2.2.2 i hi
 refine ⟨b, off, e, ?_⟩
 have := hc 0 (by simp [intCells])
 simpa [intCells] using this
theorem it_arg {H : Type} {enc : TypeId × Value -> H} {W : World} (fuel : Nat) (cs : List Value) (x : DataW H × List MemPlace) (h : DataW.trod enc Tryz.prog W 0 (fun _ => true) true fuel 72 cs = some x) (hw : (x.1.weights Tryz.prog 72).all (· <= reachBytes) = true) :
  ∃ v : ItV, cs = v.cells /\ IsIntF W v.x.facts v.a v.n /\ v.x.facts.length <= 1000000000000000 := by
 obtain ⟨fs, uE, are⟩ := uCIt
 obtain ⟨xs, n, rfl, rfl, hlen, hxl, hf⟩ := DataW.trod_struct uE h
 have e6 : fs.size = 4 := by have := congrArg List.length are; simpa using this
 rw [e6] at hxl
 rw [cCIt] at hlen
 obtain ⟨c0, c1, c2, c3, rfl⟩ := listC4 cs hlen
 obtain ⟨x0, x1, x2, x3, rfl⟩ := listC4 xs hxl
 obtain ⟨f0, g0, t0, o0⟩ := op_field 0 _ _ (by rw [are]; rfl)
 obtain ⟨f1, g1, t1, o1⟩ := op_field 1 _ _ (by rw [are]; rfl)
 obtain ⟨f2, g2, t2, o2⟩ := op_field 2 _ _ (by rw [are]; rfl)
 obtain ⟨f3, g3, t3, o3⟩ := op_field 3 _ _ (by rw [are]; rfl)
 have r0 := hf 0 f0 g0
 have r1 := hf 1 f1 g1
 have r2 := hf 2 f2 g2
 have r3 := hf 3 f3 g3
 rw [t0, o0, cCInts] at r0
 rw [t1, o1, cCInt] at r1
 rw [t2, o2, cCInt] at r2
 rw [t3, o3, cCInt] at r3
 simp only [List.drop_zero, List.drop_succ_cons, List.take_succ_cons, List.take_zero, List.getElem?_cons_zero, List.getElem?_cons_succ] at r0 r1 r2 r3
 have hty : fs.toList.map (·.type) = [31, 3, 3, 3] := by
  have := congrArg (List.map Prod.fst) are
  rw [List.map_map] at this
  exact this
 rw [DataW.weights, uE] at hw
 simp only [hty, List.map_cons, List.map_nil, DataW.weightsEach, List.all_append, Bool.and_eq_true] at hw
 obtain ⟨w0, _⟩ := hw
 obtain ⟨z1, a1, _, _⟩ := DataW.trod_int uCInt r1
 obtain ⟨z2, a2, _, _⟩ := DataW.trod_int uCInt r2
 obtain ⟨z3, a3, _, _⟩ := DataW.trod_int uCInt r3
 simp only [List.cons.injEq, and_true] at a1 a2 a3
 subst a1 a2 a3
 obtain ⟨vs, a, n', c, rfl, q1, _, q3⟩ := rows_arg (m := 1) (Q := fun _ : Int => True) intCells (fun _ => rfl) (by omega) uCInts cCInt bCInt (by omega) (fun k hk cs x g1 g2 => by
  obtain ⟨z, e, _, _⟩ := DataW.trod_int uCInt g1
  exact ⟨z, e, trivial⟩) r0 w0
 exact ⟨⟨⟨vs, z1, z2, z3⟩, a, n', c⟩, rfl, intF_rows q1, by show vs.length <= _; have := q1.1; omega⟩
theorem ev_arg {H : Type} {enc : TypeId × Value -> H} {W : World} (fuel : Nat) (cs : List Value) (x : DataW H × List MemPlace) (h : DataW.trod enc Tryz.prog W 0 (fun _ => true) true fuel 30 cs = some x) (hw : (x.1.weights Tryz.prog 30).all (· <= reachBytes) = true) :
  ∃ v : EvV, cs = v.cells /\ IsIts W v.x.items v.a v.n v.c /\ fewEv v.x := by
 obtain ⟨fs, uE, are⟩ := uCEv
 obtain ⟨xs, n, rfl, rfl, hlen, hxl, hf⟩ := DataW.trod_struct uE h
 have e6 : fs.size = 7 := by have := congrArg List.length are; simpa using this
 rw [e6] at hxl
 rw [cCEv] at hlen
 obtain ⟨c0, c1, c2, c3, c4, c5, c6, rfl⟩ := listC7 cs hlen
 obtain ⟨x0, x1, x2, x3, x4, x5, x6, rfl⟩ := listC7 xs hxl
 obtain ⟨f0, g0, t0, o0⟩ := op_field 0 _ _ (by rw [are]; rfl)
 obtain ⟨f1, g1, t1, o1⟩ := op_field 1 _ _ (by rw [are]; rfl)
 obtain ⟨f2, g2, t2, o2⟩ := op_field 2 _ _ (by rw [are]; rfl)
 obtain ⟨f3, g3, t3, o3⟩ := op_field 3 _ _ (by rw [are]; rfl)
 obtain ⟨f4, g4, t4, o4⟩ := op_field 4 _ _ (by rw [are]; rfl)
 obtain ⟨f5, g5, t5, o5⟩ := op_field 5 _ _ (by rw [are]; rfl)
 obtain ⟨f6, g6, t6, o6⟩ := op_field 6 _ _ (by rw [are]; rfl)
 have r0 := hf 0 f0 g0
 have r1 := hf 1 f1 g1
 have r2 := hf 2 f2 g2
 have r3 := hf 3 f3 g3
 have r4 := hf 4 f4 g4
 have r5 := hf 5 f5 g5
 have r6 := hf 6 f6 g6
 rw [t0, o0, cCInt] at r0
 rw [t1, o1, cCInt] at r1
 rw [t2, o2, cCInt] at r2
 rw [t3, o3, cCIts] at r3
 rw [t4, o4, cCInt] at r4
 rw [t5, o5, cCInt] at r5
 rw [t6, o6, cCInt] at r6
 simp only [List.drop_zero, List.drop_succ_cons, List.take_succ_cons, List.take_zero, List.getElem?_cons_zero, List.getElem?_cons_succ] at r0 r1 r2 r3 r4 r5 r6
 have hty : fs.toList.map (·.type) = [3, 3, 3, 28, 3, 3, 3] := by
  have := congrArg (List.map Prod.fst) are
  rw [List.map_map] at this
  exact this
 rw [DataW.weights, uE] at hw
 simp only [hty, List.map_cons, List.map_nil, DataW.weightsEach, List.all_append, Bool.and_eq_true] at hw
 obtain ⟨_, _, _, w3, _⟩ := hw
 obtain ⟨z0, a0, _, _⟩ := DataW.trod_int uCInt r0
 obtain ⟨z1, a1, _, _⟩ := DataW.trod_int uCInt r1
 obtain ⟨z2, a2, _, _⟩ := DataW.trod_int uCInt r2
 obtain ⟨z4, a4, _, _⟩ := DataW.trod_int uCInt r4
 obtain ⟨z5, a5, _, _⟩ := DataW.trod_int uCInt r5
 obtain ⟨z6, a6, _, _⟩ := DataW.trod_int uCInt r6
 simp only [List.cons.injEq, and_true] at a0 a1 a2 a4 a5 a6
 subst a0 a1 a2 a4 a5 a6
 obtain ⟨vs, a, n', c, rfl, q1, q2, q3⟩ := rows_arg (Q := fun v : ItV => IsIntF W v.x.facts v.a v.n /\ v.x.facts.length <= 1000000000000000) ItV.cells ItV.len (by omega) uCIts cCIt bCIt (by omega) (fun k hk cs x g1 g2 => it_arg k cs x g1 g2) r3 w3
 refine ⟨⟨⟨z0, z1, z2, vs.map (·.x), z4, z5, z6⟩, a, n', c⟩, rfl, ⟨vs, q1, rfl, fun v hv => (q2 v hv).1⟩, by show (vs.map (·.x)).length <= _; rw [List.length_map, <- q1.1]; exact q3, fun y hy => ?_⟩
 have hy : y ∈ vs.map (·.x) := hy
 obtain ⟨v, hv, rfl⟩ := List.mem_map.1 hy
 exact (q2 v hv).2
theorem event_arg {H : Type} {enc : TypeId × Value -> H} {W : World} {v : Value} {d : DataW H} {p : List MemPlace} {ts : List TypeId} {ds : List (DataW H)} {j : Nat} (h : DataW.Trod enc Tryz.prog W 0 (fun _ => true) true 30 v d p) {base : Nat} (hval : Value.okWide Tryz.prog W .any base 30 v)
  (hs : (DataW.weightsEach Tryz.prog ts ds).all (· <= reachBytes) = true) (ht : ts[j]? = some 30) (hd : ds[j]? = some d) : ∃ u : EvV, v = u.val /\ IsIts W u.x.items u.a u.n u.c /\ fewEv u.x := by
 have hw : (d.weights Tryz.prog 30).all (· <= reachBytes) = true := by
  rw [List.all_eq_true]
  intro n hn
  exact List.all_eq_true.1 hs n (DataW.weights_mem_each ht hd n hn)
 obtain ⟨fs, uE, are⟩ := uCEv
 obtain ⟨cs0, rfl, _⟩ := okWide_struct uE hval
 obtain ⟨fuel, hf⟩ := h
 simp only [Value.cells] at hf
 obtain ⟨u, e, h1, h2⟩ := ev_arg fuel cs0.toList _ hf hw
 exact ⟨u, by
  have : cs0 = u.cells.toArray := by rw [<- e]
  rw [this]
  rfl, h1, h2⟩
theorem claim_arg {H : Type} {enc : TypeId × Value -> H} {W : World} {v : Value} {d : DataW H} {p : List MemPlace} {ts : List TypeId} {ds : List (DataW H)} {j : Nat} (h : DataW.Trod enc Tryz.prog W 0 (fun _ => true) true 27 v d p) {base : Nat} (hval : Value.okWide Tryz.prog W .any base 27 v)
  (hs : (DataW.weightsEach Tryz.prog ts ds).all (· <= reachBytes) = true) (ht : ts[j]? = some 27) (hd : ds[j]? = some d) : ∃ (c : Clm) (a : OA) (n cap : Nat), v = ClmArg c a n cap /\ IsEvs W c.events a n cap /\ (∀ y ∈ c.events, fewEv y) /\ n <= 1000000000000000 := by
 have hw : (d.weights Tryz.prog 27).all (· <= reachBytes) = true := by
  rw [List.all_eq_true]
  intro n hn
  exact List.all_eq_true.1 hs n (DataW.weights_mem_each ht hd n hn)
 obtain ⟨fs, uE, are⟩ := uCClm
 obtain ⟨cs0, rfl, _⟩ := okWide_struct uE hval
 obtain ⟨fuel, hf⟩ := h
 simp only [Value.cells] at hf
 generalize hcs : cs0.toList = cs at hf
 obtain rfl : cs0 = cs.toArray := by rw [<- hcs]
 obtain ⟨xs, n, rfl, hx, hlen, hxl, hff⟩ := DataW.trod_struct uE hf
 have e1 : fs.size = 7 := by have := congrArg List.length are; simpa using this
 rw [e1] at hxl
 rw [cCClm] at hlen
 obtain ⟨c0, c1, c2, c3, c4, c5, c6, rfl⟩ := listC7 cs hlen
 obtain ⟨x0, x1, x2, x3, x4, x5, x6, rfl⟩ := listC7 xs hxl
 obtain ⟨f0, g0, t0, o0⟩ := op_field 0 _ _ (by rw [are]; rfl)
 obtain ⟨f1, g1, t1, o1⟩ := op_field 1 _ _ (by rw [are]; rfl)
 obtain ⟨f2, g2, t2, o2⟩ := op_field 2 _ _ (by rw [are]; rfl)
 obtain ⟨f3, g3, t3, o3⟩ := op_field 3 _ _ (by rw [are]; rfl)
 obtain ⟨f4, g4, t4, o4⟩ := op_field 4 _ _ (by rw [are]; rfl)
 obtain ⟨f5, g5, t5, o5⟩ := op_field 5 _ _ (by rw [are]; rfl)
 obtain ⟨f6, g6, t6, o6⟩ := op_field 6 _ _ (by rw [are]; rfl)
 have r0 := hff 0 f0 g0
 have r1 := hff 1 f1 g1
 have r2 := hff 2 f2 g2
 have r3 := hff 3 f3 g3
 have r4 := hff 4 f4 g4
 have r5 := hff 5 f5 g5
 have r6 := hff 6 f6 g6
 rw [t0, o0, cCInt] at r0
 rw [t1, o1, cCInt] at r1
 rw [t2, o2, cCInt] at r2
 rw [t3, o3, cCInt] at r3
 rw [t4, o4, cCInt] at r4
 rw [t5, o5, cCInt] at r5
 rw [t6, o6, cCEvs] at r6
 simp only [List.drop_zero, List.drop_succ_cons, List.take_succ_cons, List.take_zero, List.getElem?_cons_zero, List.getElem?_cons_succ] at r0 r1 r2 r3 r4 r5 r6
 have hty : fs.toList.map (·.type) = [3, 3, 3, 3, 3, 3, 25] := by
  have := congrArg (List.map Prod.fst) are
  rw [List.map_map] at this
  exact this
 have hd' := (Prod.mk.inj hx).1
 rw [hd'] at hw
 simp only [DataW.weights, uE, hty, List.map_cons, List.map_nil, DataW.weightsEach, List.all_append, Bool.and_eq_true] at hw
 obtain ⟨_, _, _, _, _, _, w6, _⟩ := hw
 obtain ⟨z0, a0, _, _⟩ := DataW.trod_int uCInt r0
 obtain ⟨z1, a1, _, _⟩ := DataW.trod_int uCInt r1
 obtain ⟨z2, a2, _, _⟩ := DataW.trod_int uCInt r2
 obtain ⟨z3, a3, _, _⟩ := DataW.trod_int uCInt r3
 obtain ⟨z4, a4, _, _⟩ := DataW.trod_int uCInt r4
 obtain ⟨z5, a5, _, _⟩ := DataW.trod_int uCInt r5
 simp only [List.cons.injEq, and_true] at a0 a1 a2 a3 a4 a5
 subst a0 a1 a2 a3 a4 a5
 obtain ⟨vs, a, n', c, rfl, q1, q2, q3⟩ := rows_arg (Q := fun v : EvV => IsIts W v.x.items v.a v.n v.c /\ fewEv v.x) EvV.cells EvV.len (by omega) uCEvs cCEv bCEv (by omega) (fun k hk cs x g1 g2 => ev_arg k cs x g1 g2) r6 w6
 refine ⟨⟨z0, z1, z2, z3, z4, z5, vs.map (·.x)⟩, a, n', c, rfl, ⟨vs, q1, rfl, fun v hv => (q2 v hv).1⟩, fun y hy => ?_, q3⟩
 have hy : y ∈ vs.map (·.x) := hy
 obtain ⟨v, hv, rfl⟩ := List.mem_map.1 hy
 exact (q2 v hv).2
open Go.RowKit
theorem rId_calls (h : Int) (w : World) : Calls Tryz.prog 34 #[.int .i64 h] w (GivesE (.bool (inB 1 1048576 h)) w) := by
 obtain ⟨R, hR⟩ : ∃ R, R = inB 1 1048576 h := ⟨_, rfl⟩
 rw [<- hR]
 have HR := hI (show R = (decide (1 <= h) && decide (h <= 1048576)) from hR)
 clear hR
 go_enter Tryz.func34, Tryz.ntmps34
 go_wp2_with fail
 all_goals (go_ret; exact givesE_b (by rw [HR.out]; simp_all <;> omega) (Ext.refl w))
theorem rMoney_calls (h : Int) (w : World) : Calls Tryz.prog 69 #[.int .i64 h] w (GivesE (.bool (moneyB h)) w) := by
 obtain ⟨R, hR⟩ : ∃ R, R = moneyB h := ⟨_, rfl⟩
 rw [<- hR]
 have HR := hI (show R = (decide (0 <= h) && decide (h <= 1073741824)) from hR)
 clear hR
 go_enter Tryz.func69, Tryz.ntmps69
 go_wp2_with fail
 all_goals (go_ret; exact givesE_b (by rw [HR.out]; simp_all <;> omega) (Ext.refl w))
theorem rCur_calls (h : Int) (w : World) : Calls Tryz.prog 39 #[.int .i64 h] w (GivesE (.bool (inB 0 15 h)) w) := by
 obtain ⟨R, hR⟩ : ∃ R, R = inB 0 15 h := ⟨_, rfl⟩
 rw [<- hR]
 have HR := hI (show R = (decide (0 <= h) && decide (h <= 15)) from hR)
 clear hR
 go_enter Tryz.func39, Tryz.ntmps39
 go_wp2_with fail
 all_goals (go_ret; exact givesE_b (by rw [HR.out]; simp_all <;> omega) (Ext.refl w))
def rPart (s : List Attr) (x : Ev) : Int := if x.kind = 1 \/ x.kind = 2 then (if 64 < x.items.length then 4 else itsErr s x.items) else if x.kind = 3 \/ x.kind = 4 then cashErr x.cur x.amount else 0
def rEvErr (s : List Attr) (x : Ev) : Int := if inB 1 7 x.kind = false then 11 else if fieldB x = true then 20 else rPart s x
def EvBox (ev : EvV) : Obj := .cells #[.int .i64 ev.x.number, .int .i64 ev.x.known, .int .i64 ev.x.kind, .slice ev.a ev.n ev.c, .int .i64 ev.x.cur, .int .i64 ev.x.amount, .int .i64 ev.x.target] 30 (0, 0)
def SchBox (sa : OA) (sn sc : Nat) : Obj := .cells #[.slice sa sn sc] 24 (0, 0)
def REvI (s : List Attr) (l : List It) (n : Nat) (w : World) (i : Value) (wr : World) : Prop := ∃ k : Nat, i = .int .i64 k /\ k <= n /\ (∀ j (h : j < l.length), j < k -> itErr s l[j] = 0) /\ Ext w wr
def reve12R (w : World) (sa : OA) (sn sc b off k : Nat) (ev : EvV) (v1 : ItV) (V : Bool) : Nat -> Value -> World -> Prop
 | 0, u, _ => u = .agg #[.slice sa sn sc]
 | 1, u, _ => u = .pointer (some ⟨w.heap.size + 1, 3, none⟩)
 | 2, u, _ => u = .slice (some ⟨b, off, none⟩) ev.n ev.c
 | 3, u, _ => u = .int .i64 k
 | 4, u, _ => u = .pointer (some ⟨b, off + k * 4, none⟩)
 | 5, u, _ => u = .pointer (some ⟨b, off + k * 4, none⟩)
 | 6, u, _ => u = .slice v1.a v1.n v1.c
 | 7, u, _ => u = .bool V
 | _, u, _ => u = .bool (!V)
theorem rEvent_calls (s : List Attr) (v : Value) (ev : EvV) (w : World) (hs : IsSchema w s v) (hf : ∀ x ∈ s, x.fits) (hl : s.length <= 1000000000000000) (hi : IsIts w ev.x.items ev.a ev.n ev.c) (hn2 : ev.n <= 1000000000000000) :
  Calls Tryz.prog 36 #[v, ev.val] w (GivesE (.int .i64 (rEvErr s ev.x)) w) := by
 obtain ⟨sa, sn, sc, rfl, -⟩ := hs.slice
 have HS := hI hs
 have HF := hI hf
 have HL := hI hl
 have HI := hI hi
 have HN := hI hi.len
 obtain ⟨R, hR⟩ : ∃ R, R = rEvErr s ev.x := ⟨_, rfl⟩
 rw [<- hR]
 have HR := hI hR
 clear hs hf hl hi hR
 unfold EvV.val
 obtain ⟨wa, hwa⟩ : ∃ wa, wa = (w.alloc (.cells #[.slice sa sn sc] 24)).alloc (.cells #[.int .i64 ev.x.number, .int .i64 ev.x.known, .int .i64 ev.x.kind, .slice ev.a ev.n ev.c, .int .i64 ev.x.cur, .int .i64 ev.x.amount, .int .i64 ev.x.target] 30) := ⟨_, rfl⟩
 have HXA := hI (show Ext w wa by rw [hwa]; exact ((Ext.refl _).alloc _).alloc _)
 have HB0 := hI (show wa.heap[w.heap.size]? = some (SchBox sa sn sc) by rw [hwa]; exact blk_alloc (alloc_new w _))
 have HB1 := hI (show wa.heap[w.heap.size + 1]? = some (EvBox ev) by rw [hwa]; have := alloc_new (w.alloc (.cells #[.slice sa sn sc] 24)) (.cells #[.int .i64 ev.x.number, .int .i64 ev.x.known, .int .i64 ev.x.kind, .slice ev.a ev.n ev.c, .int .i64 ev.x.cur, .int .i64 ev.x.amount, .int .i64 ev.x.target] 30); rwa [World.size_alloc] at this)
 obtain ⟨s0, sf⟩ := blk1 HB0.out
 obtain ⟨e0, e1, e2, e3, e4, e5, e6, ef⟩ := blk7 HB1.out
 by_cases hk0 : ev.x.kind < 1
 ·have k0 : decide (ev.x.kind < 1) = true := decide_eq_true hk0
  have HQ := hI (show R = 11 by rw [HR.out]; unfold rEvErr; rw [if_pos (by unfold inB; simp; omega)])
  clear hk0
  go_enter Tryz.func36, Tryz.ntmps36
  go_upto_region 1 with fail
  rw [<- hwa]
  clear hwa
  go_wp2_with fail
  go_ret
  exact givesE_of (by rw [HQ.out]) HXA.out
 have k0 : decide (ev.x.kind < 1) = false := decide_eq_false hk0
 by_cases hk7 : 7 < ev.x.kind
 ·have k7 : decide (7 < ev.x.kind) = true := decide_eq_true hk7
  have HQ := hI (show R = 11 by rw [HR.out]; unfold rEvErr; rw [if_pos (by unfold inB; simp; omega)])
  clear hk0 hk7
  go_enter Tryz.func36, Tryz.ntmps36
  go_upto_region 1 with fail
  rw [<- hwa]
  clear hwa
  go_wp2_with fail
  go_ret
  exact givesE_of (by rw [HQ.out]) HXA.out
 have k7 : decide (7 < ev.x.kind) = false := decide_eq_false hk7
 have HR2 := hI (show R = if fieldB ev.x = true then 20 else rPart s ev.x by rw [HR.out]; unfold rEvErr; rw [if_neg (by unfold inB; simp; omega)])
 clear hk0 hk7
 obtain ⟨A5, hA5⟩ : ∃ A5, A5 = (ev.x.kind == 1 || ev.x.kind == 2) := ⟨_, rfl⟩
 obtain ⟨A6, hA6⟩ : ∃ A6, A6 = (ev.x.kind == 3 || ev.x.kind == 4) := ⟨_, rfl⟩
 obtain ⟨NV, hNV⟩ : ∃ NV, (ev.x.kind != 7) = NV := ⟨_, rfl⟩
 have HA5 := hI hA5
 have HA6 := hI hA6
 have HNV := hI hNV
 clear hA5 hA6 hNV HR
 go_enter Tryz.func36, Tryz.ntmps36
 go_upto_region 1 with fail
 rw [<- hwa]
 clear hwa
 go_upto_region 3 with fail
 clear k0 k7
 go_cut [5] (fun s5 wx => s5 = .bool A5 /\ wx = wa)
 case first =>
  rcases (by omega : ev.x.kind = 1 \/ ev.x.kind = 2 \/ (ev.x.kind ≠ 1 /\ ev.x.kind ≠ 2)) with h | h | ⟨h, h'⟩
  ·have k1 : (ev.x.kind == 1) = true := by simp [h]
   have H1 := hI (show A5 = true by rw [HA5.out]; simp [h])
   clear h
   go_wp2_with fail
   go_meet
   case rel => exact ⟨by rw [H1.out], rfl⟩
  ·have k1 : (ev.x.kind == 1) = false := by simp [h]
   have k2 : (ev.x.kind == 2) = true := by simp [h]
   have H1 := hI (show A5 = true by rw [HA5.out]; simp [h])
   clear h
   go_wp2_with fail
   go_meet
   case rel => exact ⟨by rw [H1.out], rfl⟩
  have k1 : (ev.x.kind == 1) = false := by simp [h]
  have k2 : (ev.x.kind == 2) = false := by simp [h']
  have H1 := hI (show A5 = false by rw [HA5.out]; simp [h, h'])
  clear h h'
  go_wp2_with fail
  go_meet
  case rel => exact ⟨by rw [H1.out], rfl⟩
 case rest =>
 obtain ⟨rfl, rfl⟩ := hcut
 obtain ⟨wa, rfl⟩ : ∃ W : World, W = wc := ⟨_, rfl⟩
 go_upto_region 4 with fail
 go_cut [6] (fun s6 wx => s6 = .bool A6 /\ wx = wa)
 case first =>
  rcases (by omega : ev.x.kind = 3 \/ ev.x.kind = 4 \/ (ev.x.kind ≠ 3 /\ ev.x.kind ≠ 4)) with h | h | ⟨h, h'⟩
  ·have k1 : (ev.x.kind == 3) = true := by simp [h]
   have H1 := hI (show A6 = true by rw [HA6.out]; simp [h])
   clear h
   go_wp2_with fail
   go_meet
   case rel => exact ⟨by rw [H1.out], rfl⟩
  ·have k1 : (ev.x.kind == 3) = false := by simp [h]
   have k2 : (ev.x.kind == 4) = true := by simp [h]
   have H1 := hI (show A6 = true by rw [HA6.out]; simp [h])
   clear h
   go_wp2_with fail
   go_meet
   case rel => exact ⟨by rw [H1.out], rfl⟩
  have k1 : (ev.x.kind == 3) = false := by simp [h]
  have k2 : (ev.x.kind == 4) = false := by simp [h']
  have H1 := hI (show A6 = false by rw [HA6.out]; simp [h, h'])
  clear h h'
  go_wp2_with fail
  go_meet
  case rel => exact ⟨by rw [H1.out], rfl⟩
 case rest =>
 obtain ⟨rfl, rfl⟩ := hcut
 obtain ⟨wa, rfl⟩ : ∃ W : World, W = wc := ⟨_, rfl⟩
 obtain ⟨I0, hI0⟩ : ∃ I0, decide (0 < ev.n) = I0 := ⟨_, rfl⟩
 obtain ⟨C1, hC1⟩ : ∃ C1, (ev.x.cur != 0) = C1 := ⟨_, rfl⟩
 obtain ⟨C2, hC2⟩ : ∃ C2, (ev.x.amount != 0) = C2 := ⟨_, rfl⟩
 obtain ⟨T1, hT1⟩ : ∃ T1, (ev.x.target != 0) = T1 := ⟨_, rfl⟩
 obtain ⟨FB, hFB⟩ : ∃ FB, FB = fieldB ev.x := ⟨_, rfl⟩
 rw [<- hFB] at HR2
 have HFB := hI hFB
 have HFE := hI (show FB = ((!A5 && I0) || (!A6 && (C1 || C2)) || (NV && T1)) by
  rw [hFB, HA5.out, HA6.out, <- HNV.out, <- hI0, <- hC1, <- hC2, <- hT1, HN.out]
  unfold fieldB
  have e2 : (ev.x.kind != 7) = !(ev.x.kind == 7) := rfl
  rw [e2, Bool.and_comm (decide _), Bool.and_comm (_ || _), Bool.and_comm (ev.x.target != 0)])
 have hNV := HNV.out
 clear hFB
 go_upto_region 5 with fail
 go_cut [63] (fun s63 wx => s63 = .bool FB /\ wx = wa)
 case first =>
  have HXC := hI (show (A5 = false /\ I0 = true) \/ ((A5 = true \/ (A5 = false /\ I0 = false)) /\ ((A6 = false /\ C1 = true) \/ (A6 = false /\ C1 = false /\ C2 = true) \/ ((A6 = true \/ (A6 = false /\ C1 = false /\ C2 = false)) /\ (NV = false \/ (NV = true /\ T1 = true) \/ (NV = true /\ T1 = false))))) by
   cases I0 <;> cases A5 <;> cases C1 <;> cases C2 <;> cases A6 <;> cases T1 <;> cases NV <;> simp)
  have hxc := HXC.out
  clear HXC
  rcases hxc with ⟨rfl, rfl⟩ | ⟨rfl | ⟨rfl, rfl⟩, ⟨rfl, rfl⟩ | ⟨rfl, rfl, rfl⟩ | ⟨rfl | ⟨rfl, rfl, rfl⟩, rfl | ⟨rfl, rfl⟩ | ⟨rfl, rfl⟩⟩⟩
  all_goals
   go_wp2_with fail
   go_meet
   case rel => exact ⟨by rw [HFE.out]; simp, rfl⟩
 case rest =>
 obtain ⟨rfl, rfl⟩ := hcut
 obtain ⟨wa, rfl⟩ : ∃ W : World, W = wc := ⟨_, rfl⟩
 clear hNV hC1 hC2 hT1
 cases FB
 case true =>
  have HQ := hI (show R = 20 by rw [HR2.out, if_pos rfl])
  clear hI0
  go_wp2_with fail
  go_ret
  exact givesE_of (by rw [HQ.out]) HXA.out
 have HP := hI (show R = rPart s ev.x by rw [HR2.out, if_neg (by simp)])
 clear HR2
 have HIN := hI (show A5 = false -> ev.n = 0 from fun h => by
  have := HFE.out
  rw [h] at this
  have h0 : I0 = false := by
   cases hi0 : I0 with
   | false => rfl
   | true => rw [hi0] at this; simp at this
  rw [h0] at hI0
  have := of_decide_eq_false hI0
  omega)
 clear hI0 HFE
 by_cases h64 : A5 = true /\ 64 < ev.n
 ·obtain ⟨rfl, h64⟩ := h64
  have t64 : decide ((64 : Int) < (ev.n : Int)) = true := decide_eq_true (by omega)
  have HQ := hI (show R = 4 by
   rw [HP.out]; unfold rPart
   have h12 := HA5.out.symm
   rw [Bool.or_eq_true, beq_iff_eq, beq_iff_eq] at h12
   rw [if_pos h12, if_pos (by have := HN.out; omega)])
  clear h64
  go_wp2_with fail
  go_ret
  exact givesE_of (by rw [HQ.out]) HXA.out
 have HP2 := hI (show R = if itsErr s ev.x.items ≠ 0 then itsErr s ev.x.items else if A6 = true then cashErr ev.x.cur ev.x.amount else 0 by
  rw [HP.out]; unfold rPart
  have ha5 := HA5.out
  have ha6 := HA6.out
  by_cases h1 : ev.x.kind = 1 \/ ev.x.kind = 2
  ·have h5 : A5 = true := by rw [ha5]; rcases h1 with h | h <;> simp [h]
   have h6 : A6 = false := by rw [ha6]; simp; omega
   rw [if_pos h1, if_neg (by have := HN.out; intro h; exact h64 ⟨h5, by omega⟩), h6]
   by_cases hz : itsErr s ev.x.items = 0 <;> simp [hz]
  have h5 : A5 = false := by rw [ha5]; simp; omega
  have h0 : ev.x.items = [] := List.eq_nil_of_length_eq_zero (by have := HIN.out h5; have := HN.out; omega)
  have hz : itsErr s ev.x.items = 0 := by rw [h0]; rfl
  rw [if_neg h1, hz, if_neg (show ¬ ((0 : Int) ≠ 0) by simp)]
  by_cases h3 : ev.x.kind = 3 \/ ev.x.kind = 4
  ·have h6 : A6 = true := by rw [ha6]; rcases h3 with h | h <;> simp [h]
   rw [if_pos h3, h6, if_pos rfl]
  have h6 : A6 = false := by rw [ha6]; simp; omega
  rw [if_neg h3, h6, if_neg (by simp)])
 have HT := hI (show A5 = true -> decide ((64 : Int) < (ev.n : Int)) = false from fun h => decide_eq_false (fun h' => h64 ⟨h, by omega⟩))
 clear h64 HP
 go_upto_region 7 with fail
 go_cut [70] (fun s70 wx => s70 = .bool false /\ wx = wa)
 case first =>
  cases A5
  ·go_wp2_with fail
   go_meet
   case rel => exact ⟨rfl, rfl⟩
  have t64 := HT.out rfl
  go_wp2_with fail
  go_meet
  case rel => exact ⟨rfl, rfl⟩
 case rest =>
 obtain ⟨rfl, rfl⟩ := hcut
 obtain ⟨wa, rfl⟩ : ∃ W : World, W = wc := ⟨_, rfl⟩
 clear s0 sf e0 e1 e2 e3 e4 e5 e6 ef
 go_wp2_with fail
 go_loopw [7] (REvI s ev.x.items ev.n wa) (fun t _ => ev.n - (intOf t).toNat)
 case atStart => exact ⟨0, rfl, by omega, fun j _ h => by omega, Ext.refl _⟩
 case round =>
  obtain ⟨k, rfl, hk, hno, hx⟩ := hrel
  obtain ⟨wo, rfl⟩ : ∃ wo : World, wo = wr := ⟨_, rfl⟩
  have HNO := hI hno
  have HX := hI hx
  have HS1 := hI (hx.blk HB0.out)
  have HE1 := hI (hx.blk HB1.out)
  obtain ⟨s0, sf⟩ := blk1 HS1.out
  obtain ⟨e0, e1, e2, e3, e4, e5, e6, ef⟩ := blk7 HE1.out
  clear hno hx
  by_cases hkn : k < ev.n
  ·have hkl : k < ev.x.items.length := by have := HN.out; omega
   have t1 : decide ((k : Int) < (ev.n : Int)) = true := decide_eq_true (by omega)
   have tk0 : (0 : Int) <= (k : Int) := by omega
   have tk1 : (k : Int) < (ev.n : Int) := by omega
   obtain ⟨b, off, v1, hia, -, hfc, c0, c1, c2, c3⟩ := (HI.out.ext (HXA.out.trans HX.out)).at hkl
   rw [hia] at e3
   have HIA := hI hia
   obtain ⟨x, hx⟩ : ∃ x, x = ev.x.items[k] := ⟨_, rfl⟩
   rw [<- hx] at hfc c1 c2 c3
   have HIX := hI hx
   have HFX := hI (fun W (hW : Ext wo W) => rFacts_calls s _ x.facts v1.a v1.n v1.c W (HS.out.ext ((HXA.out.trans HX.out).trans hW)) HF.out HL.out (hfc.ext hW))
   obtain ⟨V, hV⟩ : ∃ V, V = factsB s x.facts := ⟨_, rfl⟩
   obtain ⟨M1, hM1⟩ : ∃ M1, M1 = moneyB x.value := ⟨_, rfl⟩
   obtain ⟨M2, hM2⟩ : ∃ M2, M2 = moneyB x.sum := ⟨_, rfl⟩
   obtain ⟨M3, hM3⟩ : ∃ M3, M3 = moneyB x.gross := ⟨_, rfl⟩
   have HE1' := hI (fun h : V = false => itErr_bad (s := s) (x := x) (hV.symm.trans h))
   have HE2' := hI (fun (h : V = true) (h2 : (M1 && M2 && M3) = false) => itErr_far (s := s) (x := x) (hV.symm.trans h) (by rw [<- hM1, <- hM2, <- hM3]; exact h2))
   have HE3' := hI (fun (h : V = true) (h2 : (M1 && M2 && M3) = true) => itErr_ok (s := s) (x := x) (hV.symm.trans h) (by rw [<- hM1, <- hM2, <- hM3]; exact h2))
   have HM1 := hI (fun W => rMoney_calls x.value W)
   have HM2 := hI (fun W => rMoney_calls x.sum W)
   have HM3 := hI (fun W => rMoney_calls x.gross W)
   rw [<- hV] at HFX
   rw [<- hM1] at HM1
   rw [<- hM2] at HM2
   rw [<- hM3] at HM3
   have HHIT := hI (show itErr s x ≠ 0 -> R = itErr s x from fun h => by
    have e := itsErr_hit hkl (fun j hj hjk => HNO.out j hj hjk) (by rw [<- HIX.out]; exact h)
    rw [<- HIX.out] at e
    rw [HP2.out, e, if_pos h])
   clear hx hfc hV hM1 hM2 hM3 hia
   go_upto_region 12 with fail
   refine wp_region_grow (m := 9) [8] (GrG wo) GrE (GrP (reve12R w sa sn sc b off k ev v1 V)) (by kernel_rfl) (by kernel_rfl) ((Ext.refl wo).drew) ?_ ?_ ?_
   ·intro i k v W W' hi hk hne hout h hE
    have hE : Ext W W' := hE
    have hi' := ltc9 hi
    clear hi hk hne hout
    rcases hi' with rfl | rfl | rfl | rfl | rfl | rfl | rfl | rfl | rfl
    ·exact h
    ·exact h
    ·exact h
    ·exact h
    ·exact h
    ·exact h
    ·exact h
    ·exact h
    exact h
   ·intro q op hq ho vs W hW hd ρ hρ
    have hq' := ltc9 hq
    clear hq
    have o2 : ρ (.tmp 2) = .pointer (some ⟨w.heap.size, 0, none⟩) := hρ.out 2 rfl
    have o3 : ρ (.tmp 3) = .pointer (some ⟨w.heap.size + 1, 0, none⟩) := hρ.out 3 rfl
    have i1 := hρ.i 1 79
    have o7 : ρ (.tmp 7) = .int .i64 k := hρ.out 7 rfl
    have i2 := hρ.i 2 80
    have i3 := hρ.i 3 81
    have i4 := hρ.i 4 82
    have i5 := hρ.i 5 83
    have i0 := hρ.i 0 78
    have i6 := hρ.i 6 84
    have i7 := hρ.i 7 85
    have hc := hρ.const
    have hfn := hρ.func
    clear hρ
    have HW := hI (show Ext wo W from hW)
    rcases hq' with rfl | rfl | rfl | rfl | rfl | rfl | rfl | rfl | rfl
    ·cases ho
     clear hd
     have g0 := HW.out.cell s0
     unfold GivesOp
     go_simp
     exact ⟨Ext.refl W, rfl⟩
    ·cases ho
     clear hd
     unfold GivesOp
     go_simp
     exact ⟨Ext.refl W, rfl⟩
    ·cases ho
     have h1 : vs 1 = _ := hd ⟨1, .data⟩ (by simp) rfl
     rw [h1] at i1
     clear hd
     have g0 := HW.out.cell e3
     unfold GivesOp
     go_simp
     exact ⟨Ext.refl W, rfl⟩
    ·cases ho
     clear hd
     unfold GivesOp
     go_simp
     exact ⟨Ext.refl W, rfl⟩
    ·cases ho
     have h2 : vs 2 = _ := hd ⟨2, .data⟩ (by simp) rfl
     rw [h2] at i2
     have h3 : vs 3 = _ := hd ⟨3, .data⟩ (by simp) rfl
     rw [h3] at i3
     clear hd
     unfold GivesOp
     go_simp
     exact ⟨Ext.refl W, rfl⟩
    ·cases ho
     have h4 : vs 4 = _ := hd ⟨4, .data⟩ (by simp) rfl
     rw [h4] at i4
     clear hd
     unfold GivesOp
     go_simp
     exact ⟨Ext.refl W, rfl⟩
    ·cases ho
     have h5 : vs 5 = _ := hd ⟨5, .data⟩ (by simp) rfl
     rw [h5] at i5
     clear hd
     have g0 := HW.out.cell c0
     unfold GivesOp
     go_simp
     exact ⟨Ext.refl W, rfl⟩
    ·cases ho
     have h0 : vs 0 = _ := hd ⟨0, .data⟩ (by simp) rfl
     rw [h0] at i0
     have h6 : vs 6 = _ := hd ⟨6, .data⟩ (by simp) rfl
     rw [h6] at i6
     clear hd
     unfold GivesOp
     go_simp
     refine (HFX.out W HW.out).mono ?_
     rintro r w5 ⟨rfl, hx5⟩
     exact ⟨_, rfl, hx5, HW.out.trans hx5, rfl⟩
    cases ho
    have h7 : vs 7 = _ := hd ⟨7, .data⟩ (by simp) rfl
    rw [h7] at i7
    clear hd
    unfold GivesOp
    go_simp
    exact ⟨Ext.refl W, rfl⟩
   intro vs W hW hR
   rw [if_pos (by decide +kernel)]
   have h8 : vs 8 = .bool (!V) := hR 8 (by simp) (by omega)
   simp only [acts, dstAt, List.range, List.range.loop, List.foldl_cons, List.foldl_nil, h8]
   go_simp
   have hW2 : Ext wo W := hW
   clear hR hW h8
   have HX5 := hI (HX.out.trans hW2)
   have HS5 := hI (hW2.blk HS1.out)
   have HE5 := hI (hW2.blk HE1.out)
   have HC5 := hI (show W.cell? ⟨b, off + k * 4 + 1, none⟩ = some (.int .i64 x.value) /\ W.cell? ⟨b, off + k * 4 + 2, none⟩ = some (.int .i64 x.sum) /\ W.cell? ⟨b, off + k * 4 + 3, none⟩ = some (.int .i64 x.gross) from ⟨hW2.cell c1, hW2.cell c2, hW2.cell c3⟩)
   clear hW2 s0 sf e0 e1 e2 e3 e4 e5 e6 ef c0 c1 c2 c3
   cases V
   ·have HQ := hI (show R = 16 by rw [HHIT.out (by rw [HE1'.out (by simp)]; omega)]; exact HE1'.out (by simp))
    go_wp2_with fail
    go_ret
    exact givesE_of (by rw [HQ.out]) (HXA.out.trans HX5.out)
   obtain ⟨e0, e1, e2, e3, e4, e5, e6, ef⟩ := blk7 HE5.out
   obtain ⟨c1, c2, c3⟩ := HC5.out
   rw [HIA.out] at e3
   go_wp2_with fail
   refine (HM1.out _).mono ?_
   rintro r w6 ⟨rfl, hx6⟩
   have HX6 := hI (HX5.out.trans hx6)
   have HE6 := hI (hx6.blk HE5.out)
   have HC6 := hI (show w6.cell? ⟨b, off + k * 4 + 1, none⟩ = some (.int .i64 x.value) /\ w6.cell? ⟨b, off + k * 4 + 2, none⟩ = some (.int .i64 x.sum) /\ w6.cell? ⟨b, off + k * 4 + 3, none⟩ = some (.int .i64 x.gross) from ⟨hx6.cell c1, hx6.cell c2, hx6.cell c3⟩)
   clear hx6 e0 e1 e2 e3 e4 e5 e6 ef c1 c2 c3
   cases M1
   ·have HQ := hI (show R = 1 by rw [HHIT.out (by rw [HE2'.out (by simp) (by simp)]; omega)]; exact HE2'.out (by simp) (by simp))
    go_wp2_with fail
    go_ret
    exact givesE_of (by rw [HQ.out]) (HXA.out.trans HX6.out)
   obtain ⟨e0, e1, e2, e3, e4, e5, e6, ef⟩ := blk7 HE6.out
   obtain ⟨c1, c2, c3⟩ := HC6.out
   rw [HIA.out] at e3
   go_wp2_with fail
   refine (HM2.out _).mono ?_
   rintro r w7 ⟨rfl, hx7⟩
   have HX7 := hI (HX6.out.trans hx7)
   have HE7 := hI (hx7.blk HE6.out)
   have HC7 := hI (show w7.cell? ⟨b, off + k * 4 + 1, none⟩ = some (.int .i64 x.value) /\ w7.cell? ⟨b, off + k * 4 + 2, none⟩ = some (.int .i64 x.sum) /\ w7.cell? ⟨b, off + k * 4 + 3, none⟩ = some (.int .i64 x.gross) from ⟨hx7.cell c1, hx7.cell c2, hx7.cell c3⟩)
   clear hx7 e0 e1 e2 e3 e4 e5 e6 ef c1 c2 c3
   cases M2
   ·have HQ := hI (show R = 1 by rw [HHIT.out (by rw [HE2'.out (by simp) (by simp)]; omega)]; exact HE2'.out (by simp) (by simp))
    go_wp2_with fail
    go_ret
    exact givesE_of (by rw [HQ.out]) (HXA.out.trans HX7.out)
   obtain ⟨e0, e1, e2, e3, e4, e5, e6, ef⟩ := blk7 HE7.out
   obtain ⟨c1, c2, c3⟩ := HC7.out
   rw [HIA.out] at e3
   go_wp2_with fail
   refine (HM3.out _).mono ?_
   rintro r w8 ⟨rfl, hx8⟩
   have HX8 := hI (HX7.out.trans hx8)
   have HE8 := hI (hx8.blk HE7.out)
   have HC8 := hI (show w8.cell? ⟨b, off + k * 4 + 1, none⟩ = some (.int .i64 x.value) /\ w8.cell? ⟨b, off + k * 4 + 2, none⟩ = some (.int .i64 x.sum) /\ w8.cell? ⟨b, off + k * 4 + 3, none⟩ = some (.int .i64 x.gross) from ⟨hx8.cell c1, hx8.cell c2, hx8.cell c3⟩)
   clear hx8 e0 e1 e2 e3 e4 e5 e6 ef c1 c2 c3
   cases M3
   ·have HQ := hI (show R = 1 by rw [HHIT.out (by rw [HE2'.out (by simp) (by simp)]; omega)]; exact HE2'.out (by simp) (by simp))
    go_wp2_with fail
    go_ret
    exact givesE_of (by rw [HQ.out]) (HXA.out.trans HX8.out)
   have HZ := hI (HE3'.out (by simp) (by simp))
   go_wp2_with fail
   go_roundw
   case rel =>
    refine ⟨k + 1, by go_num, by omega, fun j hj hjk => ?_, HX8.out⟩
    by_cases e : j = k
    ·subst e; rw [<- HIX.out]; exact HZ.out
    exact HNO.out j hj (by omega)
   case measure => simp [intOf]; omega
  have t1 : decide ((k : Int) < (ev.n : Int)) = false := decide_eq_false (by omega)
  have HR3 := hI (show R = if A6 = true then cashErr ev.x.cur ev.x.amount else 0 by
   rw [HP2.out, itsErr_zero (fun j hj => HNO.out j hj (by have := HN.out; omega))]; simp)
  clear HP2
  cases A6
  ·have HQ := hI (show R = 0 by rw [HR3.out, if_neg (by simp)])
   go_wp2_with fail
   go_ret
   exact givesE_of (by rw [HQ.out]) (HXA.out.trans HX.out)
  have HR4 := hI (show R = cashErr ev.x.cur ev.x.amount by rw [HR3.out, if_pos rfl])
  clear HR3
  go_wp2_with fail
  refine (rCur_calls ev.x.cur wo).mono ?_
  rintro r w6 ⟨rfl, hx6⟩
  have HX6 := hI (HX.out.trans hx6)
  have HE6 := hI (hx6.blk HE1.out)
  clear hx6 s0 sf e0 e1 e2 e3 e4 e5 e6 ef
  obtain ⟨e0, e1, e2, e3, e4, e5, e6, ef⟩ := blk7 HE6.out
  cases hc : inB 0 15 ev.x.cur
  ·have HQ := hI (show R = 15 by rw [HR4.out]; unfold cashErr; rw [if_pos hc])
   clear hc
   go_wp2_with fail
   go_ret
   exact givesE_of (by rw [HQ.out]) (HXA.out.trans HX6.out)
  have HR5 := hI (show R = if inB 1 1073741824 ev.x.amount = false then 1 else 0 by rw [HR4.out]; unfold cashErr; rw [if_neg (by simp [hc])])
  clear hc
  by_cases ha0 : ev.x.amount < 1
  ·have u0 : decide (ev.x.amount < 1) = true := decide_eq_true ha0
   have HQ := hI (show R = 1 by rw [HR5.out, if_pos (by unfold inB; simp; omega)])
   clear ha0
   go_wp2_with fail
   go_ret
   exact givesE_of (by rw [HQ.out]) (HXA.out.trans HX6.out)
  have u0 : decide (ev.x.amount < 1) = false := decide_eq_false ha0
  by_cases ha1 : 1073741824 < ev.x.amount
  ·have u1 : decide (1073741824 < ev.x.amount) = true := decide_eq_true ha1
   have HQ := hI (show R = 1 by rw [HR5.out, if_pos (by unfold inB; simp; omega)])
   clear ha0 ha1
   go_wp2_with fail
   go_ret
   exact givesE_of (by rw [HQ.out]) (HXA.out.trans HX6.out)
  have u1 : decide (1073741824 < ev.x.amount) = false := decide_eq_false ha1
  have HQ := hI (show R = 0 by rw [HR5.out, if_neg (by unfold inB; simp; omega)])
  clear ha0 ha1
  go_wp2_with fail
  go_ret
  exact givesE_of (by rw [HQ.out]) (HXA.out.trans HX6.out)
end Go.Proofs.YtpkljcgihobaiaaGreat
