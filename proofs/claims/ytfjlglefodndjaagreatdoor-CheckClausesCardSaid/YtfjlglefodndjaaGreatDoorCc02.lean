/-
  Texts of the claim, joined: RowsOf, Size, Valid, Part, Composed, Lex3.
-/
import Derived.Test.YtfjlglefodndjaaGreatDoorCc01
namespace Go.Proofs.YtfjlglefodndjaaGreatDoor
open Go.RowKit

/-- The facts of a slice type t with elements of type e. -/
structure ElemT (t e : TypeId) (z : Value) (size bytes : Nat) : Prop where
  ht : Tryz.prog.underlying t = some (.slice e)
  info : (Tryz.prog.info? e).map (fun i => (i.zero, i.size, i.bytes)) = some (some z, size, bytes)
  hzs : z.cells.size = size
  hsz : 0 < size

theorem run_append1 {t e : TypeId} {z : Value} {size bytes : Nat} (E : ElemT t e z size bytes) (ty : TypeId) (W : World) {base : Nat} {v : Value} {n : Nat} {xs : List Value} (hown : W.ownsRow base e size v n xs)
    (B off m c : Nat) (news : List Value) (hl : news.length = m * size) (hnews : ∀ j (h : j < news.length), W.cell? ⟨B, off + j, none⟩ = some news[j]) (h1 : ∀ u ∈ news, u.oneCell' = true)
    (hm : n + m ≤ maxLen) (hb : (n + m) * bytes ≤ 140737488355328) (hbase : base ≤ W.heap.size) :
    ∃ v' w', Sem.run Tryz.prog (Builtin.append_ #[t, t] ty #[v, .slice (some ⟨B, off, none⟩) m c]) W = .ok v' w' ∧ w'.ownsRow base e size v' (n + m) (xs ++ news) ∧ W.grownBy w' v.ownBlock ∧
      (v' = .slice none 0 0 ↔ v = .slice none 0 0 ∧ m = 0) := by
  obtain ⟨i, hi, hz, hs, hby⟩ := info_parts E.info
  refine run_append_own (P := Tryz.prog) W base t ty e i z size bytes E.ht hi hz hs hby E.hzs E.hsz v n xs hown ⟨B, off, none⟩ m c news hl ?_ h1 hm hb hbase
  intro j u hu
  obtain ⟨hj, rfl⟩ := List.getElem?_eq_some_iff.1 hu
  have : (⟨B, off, none⟩ : Addr).add j = ⟨B, off + j, none⟩ := by unfold Addr.add; split <;> simp_all
  rw [this]
  exact hnews j hj

/-- A slice of records: n of them, each of size cells. -/
def IsRows {α : Type} (w : World) (size : Nat) (f : α → List Value) (l : List α) (a : Option Addr) (n c : Nat) : Prop :=
  n = l.length ∧ n ≤ c ∧ OkAddr a c ∧ ∀ i (h : i < l.length), ∃ b off, a = some ⟨b, off, none⟩ ∧ ∀ j (hj : j < (f l[i]).length), w.cell? ⟨b, off + i * size + j, none⟩ = some (f l[i])[j]

theorem IsRows.mono {α : Type} {w w' : World} {size : Nat} {f : α → List Value} {l : List α} {a : Option Addr} {n c : Nat} (h : IsRows w size f l a n c) (he : Sub w w') : IsRows w' size f l a n c :=
  ⟨h.1, h.2.1, h.2.2.1, fun i hi => by obtain ⟨b, off, h1, h2⟩ := h.2.2.2 i hi; exact ⟨b, off, h1, fun j hj => he _ _ (h2 j hj)⟩⟩
theorem IsRows.ext {α : Type} {w w' : World} {size : Nat} {f : α → List Value} {l : List α} {a : Option Addr} {n c : Nat} (h : IsRows w size f l a n c) (he : Ext w w') : IsRows w' size f l a n c := h.mono he.sub

theorem flatMap_at {α : Type} (f : α → List Value) (size : Nat) (hf : ∀ x, (f x).length = size) : (l : List α) → (i : Nat) → (hi : i < l.length) → (j : Nat) → (hj : j < (f l[i]).length) → (l.flatMap f)[i * size + j]? = some (f l[i])[j]
  | [], i, hi, _, _ => by simp at hi
  | x :: r, 0, _, j, hj => by
    simp only [List.getElem_cons_zero] at hj
    simp only [List.flatMap_cons, Nat.zero_mul, Nat.zero_add, List.getElem_cons_zero]
    rw [List.getElem?_append_left hj, List.getElem?_eq_getElem hj]
  | x :: r, i + 1, hi, j, hj => by
    have := flatMap_at f size hf r i (by simpa using hi) j (by simpa using hj)
    simp only [List.flatMap_cons, List.getElem_cons_succ] at *
    rw [List.getElem?_append_right (by rw [hf, Nat.succ_mul]; omega), hf, show (i + 1) * size + j - size = i * size + j by rw [Nat.succ_mul]; omega]
    exact this

theorem length_flatMap_of {α : Type} (f : α → List Value) (size : Nat) (hf : ∀ x, (f x).length = size) : (l : List α) → (l.flatMap f).length = l.length * size
  | [] => by simp
  | x :: r => by simp only [List.flatMap_cons, List.length_append, hf, length_flatMap_of f size hf r, List.length_cons, Nat.succ_mul]; omega

theorem IsRows.of_owns {α : Type} {w : World} {base : Nat} {e : TypeId} {size : Nat} {f : α → List Value} {l : List α} {v : Value} (hf : ∀ x, (f x).length = size) (h : w.ownsRow base e size v l.length (l.flatMap f)) :
    ∃ a c, v = .slice a l.length c ∧ IsRows w size f l a l.length c := by
  rcases h.2 with ⟨rfl, h0⟩ | ⟨g, cap, cur, rfl, _, hg, hle, _, _, _⟩
  · have : l = [] := List.eq_nil_of_length_eq_zero h0
    subst this
    exact ⟨none, 0, rfl, rfl, by simp, Or.inl ⟨rfl, rfl⟩, fun i hi => by simp at hi⟩
  · refine ⟨some ⟨g, 0, none⟩, cap, rfl, rfl, hle, Or.inr ⟨g, 0, rfl⟩, fun i hi => ⟨g, 0, rfl, fun j hj => ?_⟩⟩
    rw [Nat.zero_add, h.cellAt _ ?_]
    · exact flatMap_at f size hf l i hi j hj
    · rw [hf] at hj
      calc i * size + j < i * size + size := by omega
        _ = (i + 1) * size := by rw [Nat.succ_mul]
        _ ≤ l.length * size := Nat.mul_le_mul_right _ hi

theorem owns_ext {w w' : World} {base : Nat} {e : TypeId} {size : Nat} {v : Value} {n : Nat} {xs : List Value} (h : w.ownsRow base e size v n xs) (he : Ext w w') : w'.ownsRow base e size v n xs :=
  h.kept (row := none) ⟨he.os, he.tape, he.output, he.size, fun k hk _ => he.block k hk⟩ (by cases hv : v.ownBlock <;> simp)

theorem Ext.grown {a w w' : World} {row : Option Nat} (h : Ext a w) (hg : w.grownBy w' row) (hr : ∀ k, row = some k → a.heap.size ≤ k) : Ext a w' := Below.grown h hg h.size hr

/-- append of elements that were just laid into a block of their own. -/
theorem wpList_append_new {t e : TypeId} {z : Value} {size bytes : Nat} (E : ElemT t e z size bytes) {ops : Array Oper} {rest : List Oper} {o : Oper} {a : Act} {Q : Exit → Act → World → Prop} {X : World} {arr : Array Value} {tt : TypeId}
    (hgd : o.guard = none) (s x : Operand) (ho : o.op = .call { callee := .builtin .append, args := #[s, x], argTypes := #[t, t] }) (base : Nat) (v : Value) (n : Nat) (xs : List Value) (hs : a.eval s = v) (hown : X.ownsRow base e size v n xs)
    (B m c : Nat) (hx : a.eval x = .slice (some ⟨B, 0, none⟩) m c) (hB : B = X.heap.size) (hl : arr.size = m * size) (h1 : ∀ u ∈ arr.toList, u.oneCell' = true) (hm : n + m ≤ maxLen) (hb : (n + m) * bytes ≤ 140737488355328) (hbase : base ≤ X.heap.size)
    (h : ∀ v' w', w'.ownsRow base e size v' (n + m) (xs ++ arr.toList) → X.grownBy w' v.ownBlock → wpList Tryz.prog ops Q rest (a.put o.dst v') w') : wpList Tryz.prog ops Q (o :: rest) a (X.alloc (.cells arr tt)) := by
  subst hB
  obtain ⟨i, hi, hz, hsz, hby⟩ := info_parts E.info
  refine wpList_append_own (X.alloc (.cells arr tt)) hgd s x t ho base e i z size bytes E.ht hi hz hsz hby E.hzs E.hsz v n xs hs (hown.alloc _) ⟨X.heap.size, 0, none⟩ m c arr.toList hx (by simpa using hl) ?_ h1 hm hb (by simp; omega) ?_
  · intro j u hu
    have : (⟨X.heap.size, 0, none⟩ : Addr).add j = ⟨X.heap.size, j, none⟩ := by unfold Addr.add; split <;> simp_all
    rw [this, World.cell?_alloc_at _ _ _ _ rfl]
    simpa using hu
  · intro v' w' h2 h3 _
    refine h v' w' h2 ⟨h3.os, h3.tape, h3.output, ?_, fun k hk hne => ?_⟩
    · have := h3.size; simp at this; omega
    · rw [h3.block k (by simp; omega) hne]
      exact Below.heap_alloc _ _ _ hk

/-- What was appended to is still the call's own. -/
theorem owns_base {w : World} {base : Nat} {e : TypeId} {size : Nat} {v : Value} {n : Nat} {xs : List Value} (h : w.ownsRow base e size v n xs) : ∀ k, v.ownBlock = some k → base ≤ k := fun k hk => (h.lt k hk).1
end Go.Proofs.YtfjlglefodndjaaGreatDoor

namespace Go.Proofs.YtfjlglefodndjaaGreatDoor
open Go.RowKit

def SizeQ (e : Ex) (w : World) (r : Ending) (w' : World) : Prop := r = .returned (.int .i64 e.size) ∧ Ext w w'

end Go.Proofs.YtfjlglefodndjaaGreatDoor

namespace Go.Proofs.YtfjlglefodndjaaGreatDoor
open Go.RowKit

theorem World.setCell_twice (w : World) (p : Addr) (u v : Value) : (w.setCell p u).setCell p v = w.setCell p v := by
  simp only [World.setCell, World.mk.injEq, and_true]
  apply Array.ext_getElem?
  intro i
  simp only [Array.getElem?_modify]
  split
  · cases w.heap[i]? with
    | none => rfl
    | some o =>
      simp only [Option.map_some, Option.some.injEq]
      cases o with
      | cells c el fr =>
        by_cases h : p.spot.isSome
        · simp [h]
        · simp only [h, Bool.false_eq_true, if_false, Obj.cells.injEq, and_true]
          apply Array.ext_getElem?
          intro j
          simp only [Array.getElem?_setIfInBounds, Array.size_setIfInBounds]
          split
          · split <;> simp_all
          · rfl
      | _ => rfl
  · rfl

theorem Ext.set {a b : World} (h : Ext a b) (p : Addr) (v : Value) : Ext (a.setCell p v) (b.setCell p v) := by
  refine ⟨h.os, h.tape, h.output, by simp; exact h.size, fun k hk => ?_⟩
  have hk' : k < a.heap.size := by simpa using hk
  simp only [World.setCell, Array.getElem?_modify]
  rw [h.block k hk']
theorem Ext.setAbove {a b : World} (h : Ext a b) {p : Addr} (hp : a.heap.size ≤ p.block) (v : Value) : Ext a (b.setCell p v) := Below.setCell h hp v

mutual
def Ex.fits : Ex → Prop
  | .mk _ name words _ _ args => name.size ≤ 1000000000000000 ∧ (∀ x ∈ words, x.size ≤ 1000000000000000) ∧ fitsAll args
def fitsAll : List Ex → Prop
  | [] => True
  | e :: r => e.fits ∧ fitsAll r
end
theorem fitsAll_at : (l : List Ex) → fitsAll l → (k : Nat) → (hk : k < l.length) → l[k].fits
  | [], _, k, hk => by simp at hk
  | e :: r, h, 0, _ => by unfold fitsAll at h; exact h.1
  | e :: r, h, k + 1, hk => by unfold fitsAll at h; simpa using fitsAll_at r h.2 k (by simpa using hk)
theorem fits_parts {e : Ex} (h : e.fits) : e.name.size ≤ 1000000000000000 ∧ (∀ x ∈ e.words, x.size ≤ 1000000000000000) ∧ fitsAll e.args := by
  cases e; unfold Ex.fits at h; exact h

mutual
def validF : Ex → Int → Int → Bool × Int
  | .mk op name words lo hi args, d, n =>
    if 300 < n + 1 ∨ 16 < d ∨ nodeB (.mk op name words lo hi args) = false then (false, n + 1) else validsF args (d + 1) (n + 1)
def validsF : List Ex → Int → Int → Bool × Int
  | [], _, n => (true, n)
  | e :: r, d, n => if (validF e d n).1 then validsF r d (validF e d n).2 else (false, (validF e d n).2)
end
theorem validF_eq (e : Ex) (d n : Int) : validF e d n = if 300 < n + 1 ∨ 16 < d ∨ nodeB e = false then (false, n + 1) else validsF e.args (d + 1) (n + 1) := by
  cases e; rw [validF]; rfl
theorem validsF_drop (l : List Ex) (k : Nat) (hk : k < l.length) (d n : Int) : validsF (l.drop k) d n = if (validF l[k] d n).1 then validsF (l.drop (k + 1)) d (validF l[k] d n).2 else (false, (validF l[k] d n).2) := by
  rw [List.drop_eq_getElem_cons hk, validsF]
mutual
theorem validF_bd : (e : Ex) → (d n : Int) → n ≤ 300 → n < (validF e d n).2 ∧ (validF e d n).2 ≤ 301
  | .mk op name words lo hi args, d, n, h => by
    rw [validF]
    split
    · constructor <;> simp <;> omega
    · have := validsF_bd args (d + 1) (n + 1) (by omega)
      omega
theorem validsF_bd : (l : List Ex) → (d n : Int) → n ≤ 300 → n ≤ (validsF l d n).2 ∧ (validsF l d n).2 ≤ 301
  | [], d, n, h => by simp [validsF]; omega
  | e :: r, d, n, h => by
    have h1 := validF_bd e d n h
    have h3 := validF_ok e d n
    rw [validsF]
    split
    · rename_i hok
      have := validsF_bd r d (validF e d n).2 (h3 hok)
      omega
    · simp only; omega
theorem validF_ok : (e : Ex) → (d n : Int) → (validF e d n).1 = true → (validF e d n).2 ≤ 300
  | .mk op name words lo hi args, d, n => by
    rw [validF]
    split
    · simp
    · exact validsF_ok args (d + 1) (n + 1) (by omega)
theorem validsF_ok : (l : List Ex) → (d n : Int) → n ≤ 300 → (validsF l d n).1 = true → (validsF l d n).2 ≤ 300
  | [], d, n, h => by simp [validsF]; omega
  | e :: r, d, n, h => by
    rw [validsF]
    split
    · rename_i hok
      exact validsF_ok r d _ (validF_ok e d n hok)
    · simp
end

/-- What a call of valid does: it answers, and the counter holds the new number. -/
def ValidQ (r : Bool × Int) (p : Addr) (w : World) (x : Ending) (w' : World) : Prop := x = .returned (.bool r.1) ∧ Ext (w.setCell p (.int .i64 r.2)) w'

theorem validQ_mk {b : Bool} {R : Bool × Int} {b' : Bool} {n : Int} {p : Addr} {w w' : World} (h : R = (b', n)) (hb : b = b') (hx : Ext (w.setCell p (.int .i64 n)) w') : ValidQ R p w (.returned (.bool b)) w' := by
  subst h hb; exact ⟨rfl, hx⟩

set_option maxRecDepth 100000 in
set_option maxHeartbeats 1000000 in
theorem valid_calls (m : Nat) : ∀ (e : Ex) (v : Value) (w0 w : World) (bs : Nat) (d n : Int), e.size ≤ m → IsEx w0 e v → HasOps w0 → e.fits → Ext w0 w → w0.heap.size ≤ bs → w.cell? ⟨bs, 0, none⟩ = some (.int .i64 n) → w.frozen? ⟨bs, 0, none⟩ = false →
    0 ≤ n → n ≤ 300 → 0 ≤ d → d ≤ 17 → Calls Tryz.prog 78 #[v, .int .i64 d, .pointer (some ⟨bs, 0, none⟩)] w (ValidQ (validF e d n) ⟨bs, 0, none⟩ w) := by
  induction m with
  | zero => intro e v w0 w bs d n h; cases e; simp [Ex.size] at h
  | succ m ih =>
    intro e v w0 w bs d n hm he ho hf hx hbs hc hz hn0 hn hd0 hd
    have IH := Lib.hid ih
    clear ih
    have HE := Lib.hid he
    have HO := Lib.hid ho
    have HF := Lib.hid hf
    have HX := Lib.hid hx
    have hbw := block_lt hc
    simp only at hbw
    obtain ⟨aw, nw, cw, aa, na, ca, rfl, hw, hna, hca, ha, hxs⟩ := he.parts
    have HXS := Lib.hid hxs
    have HNA := Lib.hid hna
    have hse : e.size = 1 + sizes e.args := by cases e; simp [Ex.size, Ex.args]
    have HM := Lib.hid (show 1 + sizes e.args ≤ m + 1 by omega)
    clear he ho hf hx hw hca ha hxs hna hse hm
    by_cases h1 : 300 < n + 1
    · have H := Lib.hid (show validF e d n = (false, n + 1) by rw [validF_eq, if_pos (Or.inl h1)])
      generalize validF e d n = R at *
      unfold exV
      go_enter Tryz.func78, Tryz.ntmps78
      go_wp2_with fail
      go_ret
      exact validQ_mk H.out rfl ((Ext.refl _).alloc _)
    by_cases h2 : 16 < d
    · have H := Lib.hid (show validF e d n = (false, n + 1) by rw [validF_eq, if_pos (Or.inr (Or.inl h2))])
      generalize validF e d n = R at *
      unfold exV
      go_enter Tryz.func78, Tryz.ntmps78
      go_wp2_with fail
      go_ret
      exact validQ_mk H.out rfl ((Ext.refl _).alloc _)
    have HN : Hid (∀ w1, Ext w0 w1 → Calls Tryz.prog 97 #[exV e.op e.name aw nw cw e.lo e.hi aa na ca] w1 (GivesE (.bool (nodeB e)) w1)) := fun w1 h =>
      node_calls e _ w1 (HE.out.ext h) (HO.out.ext h) (fits_parts HF.out).1 (fits_parts HF.out).2.1
    cases h3 : nodeB e
    · have H := Lib.hid (show validF e d n = (false, n + 1) by rw [validF_eq, if_pos (Or.inr (Or.inr h3))])
      have H3 := Lib.hid h3
      clear h3
      generalize validF e d n = R at *
      unfold exV at *
      go_enter Tryz.func78, Tryz.ntmps78
      go_wp2_with fail
      refine (HN.out _ (Ext.alloc (HX.out.setAbove hbs _) _)).mono ?_
      rintro r w1 ⟨rfl, hw1⟩
      rw [H3.out]
      go_wp2_with fail
      go_ret
      exact validQ_mk H.out rfl (((Ext.refl _).alloc _).trans hw1)
    · have H := Lib.hid (show validF e d n = validsF e.args (d + 1) (n + 1) by rw [validF_eq, if_neg (by simp [h3]; omega)])
      have H3 := Lib.hid h3
      have hna : na ≤ 300 := by
        have := h3
        unfold nodeB at this
        simp only [Bool.and_eq_true, decide_eq_true_eq] at this
        have h4 := this.1.1.1.2.2
        have h5 : opMost e.op.toNat ≤ 300 := by
          obtain ⟨k, hk⟩ := Int.eq_ofNat_of_zero_le (show 0 ≤ e.op by omega)
          rw [hk] at this ⊢
          have : k < 9 := by omega
          unfold opMost
          match k, this with | 0, _ | 1, _ | 2, _ | 3, _ | 4, _ | 5, _ | 6, _ | 7, _ | 8, _ => decide
        have := HNA.out
        omega
      clear h3
      generalize validF e d n = R at *
      unfold exV at *
      go_enter Tryz.func78, Tryz.ntmps78
      go_wp2_with fail
      refine (HN.out _ (Ext.alloc (HX.out.setAbove hbs _) _)).mono ?_
      rintro r w1 ⟨rfl, hw1⟩
      rw [H3.out]
      have hx5 : w1.cell? ⟨w.heap.size, 5, none⟩ = some (.slice aa na ca) := hw1.cell (by go_simp)
      have hw2 := Lib.hid hw1
      clear hw1
      go_wp2_with fail
      go_loopw [30] (fun i wr => ∃ (k : Nat) (c : Int), k ≤ na ∧ i = .int .i64 k ∧ 0 ≤ c ∧ c ≤ 300 ∧ validsF (e.args.drop k) (d + 1) c = R ∧ Ext (w.setCell ⟨bs, 0, none⟩ (.int .i64 c)) wr) (fun i _ => na - (intOf i).toNat)
      case atStart => exact ⟨0, n + 1, by omega, rfl, by omega, by omega, by rw [List.drop_zero, H.out], ((Ext.refl _).alloc _).trans hw2.out⟩
      case round =>
        obtain ⟨k, c, hk, rfl, hc0, hc1, hR, hwr⟩ := hrel
        have HR := Lib.hid hR
        have HWR := Lib.hid hwr
        clear hR hwr hx5 hw2
        by_cases hlt : k < na
        · have hlt' : k < e.args.length := by have := HNA.out; omega
          have hsz : e.args[k].size ≤ m := by
            have h1 := sizes_take_succ e.args k hlt'
            have h2 := sizes_take_le e.args (k + 1)
            have := HM.out
            omega
          have hx0 := Lib.hid (show Ext w0 wr from (HX.out.setAbove hbs _).trans HWR.out)
          have hcc : wr.cell? ⟨bs, 0, none⟩ = some (.int .i64 c) := HWR.out.cell (World.cell?_setCell_same _ _ _ hc)
          have hcz : wr.frozen? ⟨bs, 0, none⟩ = false := by rw [HWR.out.frozen (World.cell?_setCell_same _ _ _ hc)]; simpa using hz
          have hbr := block_lt hcc
          simp only at hbr
          obtain ⟨b, off, rfl, aw1, nw1, cw1, aa1, na1, ca1, g0, g1, g2, g3, g4, g5, g6⟩ := ExsD.at e.args _ HXS.out k hlt'
          have f0 := hx0.out.cell g0
          have f1 := hx0.out.cell g1
          have f2 := hx0.out.cell g2
          have f3 := hx0.out.cell g3
          have f4 := hx0.out.cell g4
          have f5 := hx0.out.cell g5
          have hcall := Lib.hid (fun (w1 : World) (hw : Ext wr w1) => IH.out e.args[k] (exV e.args[k].op e.args[k].name aw1 nw1 cw1 e.args[k].lo e.args[k].hi aa1 na1 ca1) w0 w1 bs (d + 1) c hsz g6 HO.out
            (fitsAll_at _ (fits_parts HF.out).2.2 k hlt') (hx0.out.trans hw) hbs (hw.cell hcc) (by rw [hw.frozen hcc]; exact hcz) hc0 hc1 (by omega) (by omega))
          clear g0 g1 g2 g3 g4 g5 g6 hc hz
          unfold exV at hcall
          have HS := Lib.hid (validsF_drop e.args k hlt' (d + 1) c)
          have HD := Lib.hid (validF_bd e.args[k] (d + 1) c hc1)
          have HK := Lib.hid (validF_ok e.args[k] (d + 1) c)
          generalize validF e.args[k] (d + 1) c = S at *
          obtain ⟨sb, sn⟩ := S
          cases sb
          · go_wp2_with fail
            refine (hcall.out _ ((Ext.refl wr).alloc _)).mono ?_
            rintro r w1 ⟨rfl, hw1⟩
            go_wp2_with fail
            go_ret
            refine validQ_mk (HR.out.symm.trans HS.out) rfl ?_
            have h1 := (((Ext.refl wr).alloc (.cells #[.int .i64 e.args[k].op, .string e.args[k].name, .slice aw1 nw1 cw1, .int .i64 e.args[k].lo, .int .i64 e.args[k].hi, .slice aa1 na1 ca1] 29)).set ⟨bs, 0, none⟩ (.int .i64 sn)).trans hw1
            have h2 := (HWR.out.set ⟨bs, 0, none⟩ (.int .i64 sn)).trans h1
            rw [World.setCell_twice] at h2
            exact h2
          · go_wp2_with fail
            refine (hcall.out _ ((Ext.refl wr).alloc _)).mono ?_
            rintro r w1 ⟨rfl, hw1⟩
            have HW1 := Lib.hid hw1
            clear hw1
            go_wp2_with fail
            go_roundw
            case rel =>
              refine ⟨k + 1, sn, by omega, by go_num, ?_, HK.out (by trivial), HS.out.symm.trans HR.out, ?_⟩
              · have := HD.out; omega
              have h1 := (((Ext.refl wr).alloc (.cells #[.int .i64 e.args[k].op, .string e.args[k].name, .slice aw1 nw1 cw1, .int .i64 e.args[k].lo, .int .i64 e.args[k].hi, .slice aa1 na1 ca1] 29)).set ⟨bs, 0, none⟩ (.int .i64 sn)).trans HW1.out
              have h2 := (HWR.out.set ⟨bs, 0, none⟩ (.int .i64 sn)).trans h1
              rw [World.setCell_twice] at h2
              exact h2
            case measure => simp [intOf]; omega
        · have hkn := Lib.hid (show k = e.args.length by have := HNA.out; omega)
          go_wp2_with fail
          go_ret
          exact validQ_mk (R := R) (by rw [← HR.out, hkn.out, List.drop_length, validsF]) rfl HWR.out

/-- Valid. -/
def validB (e : Ex) : Bool := (validF e 1 0).1
theorem Valid_calls (e : Ex) (v : Value) (w : World) (he : IsEx w e v) (ho : HasOps w) (hf : e.fits) : Calls Tryz.prog 52 #[v] w (GivesE (.bool (validB e)) w) := by
  have HE := Lib.hid he
  have HO := Lib.hid ho
  have HF := Lib.hid hf
  obtain ⟨aw, nw, cw, aa, na, ca, rfl, -⟩ := he.parts
  clear he ho hf
  unfold exV at *
  go_enter Tryz.func52, Tryz.ntmps52
  go_wp2_with fail
  refine (valid_calls e.size e _ w _ _ 1 0 (Nat.le_refl _) HE.out HO.out HF.out (((Ext.refl w).alloc _).alloc _) (by simp) (by go_simp) (by go_simp) (by omega) (by omega) (by omega) (by omega)).mono ?_
  rintro r w1 ⟨rfl, hw1⟩
  go_wp2_with fail
  go_ret
  exact givesE_bool rfl ((Ext.setAbove (((Ext.refl w).alloc _).alloc _) (by simp) _).trans hw1)
end Go.Proofs.YtfjlglefodndjaaGreatDoor

namespace Go.Proofs.YtfjlglefodndjaaGreatDoor
open Go.RowKit

/-- w without the blocks of M. -/
def mask (w : World) (M : List Nat) : World := { w with heap := w.heap.mapIdx fun i o => if i ∈ M then .map #[] 0 else o }
theorem mask_cell (w : World) (M : List Nat) (p : Addr) : (mask w M).cell? p = if p.block ∈ M then none else w.cell? p := by
  unfold World.cell? mask
  simp only [Array.getElem?_mapIdx]
  by_cases h : p.block ∈ M
  · simp only [h, if_true]
    cases w.heap[p.block]? <;> simp
  · simp only [h, if_false]
    cases w.heap[p.block]? <;> simp
theorem mask_sub (w : World) (M : List Nat) : Sub (mask w M) w := by
  intro p v h
  rw [mask_cell] at h
  split at h
  · cases h
  · exact h
theorem mask_size (w : World) (M : List Nat) : (mask w M).heap.size = w.heap.size := by simp [mask]
/-- What is masked in w and outside of M' in w' is unchanged. -/
theorem mask_sub_mask {w w' : World} {M M' : List Nat} (h : ∀ k, k < w.heap.size → k ∉ M → k ∉ M' ∧ w'.heap[k]? = w.heap[k]?) : Sub (mask w M) (mask w' M') := by
  intro p v hp
  have hb := block_lt hp
  rw [mask_size] at hb
  rw [mask_cell] at hp ⊢
  split at hp
  · cases hp
  · rename_i hn
    obtain ⟨h1, h2⟩ := h _ hb hn
    rw [if_neg h1]
    rw [World.cell?_of_block (w := w) (w' := w') h2]
    exact hp
theorem mask_ext {w w' : World} (M : List Nat) (h : Ext w w') : Sub (mask w M) (mask w' M) := mask_sub_mask fun k hk hn => ⟨hn, h.block k hk⟩

structure ExV where
  op : Int
  name : ByteArray
  aw : Option Addr
  nw : Nat
  cw : Nat
  lo : Int
  hi : Int
  aa : Option Addr
  na : Nat
  ca : Nat
def ExV.cells (x : ExV) : List Value := [.int .i64 x.op, .string x.name, .slice x.aw x.nw x.cw, .int .i64 x.lo, .int .i64 x.hi, .slice x.aa x.na x.ca]
def ExV.val (x : ExV) : Value := exV x.op x.name x.aw x.nw x.cw x.lo x.hi x.aa x.na x.ca

structure Part where
  ex : Ex
  size : Nat
  depth : Nat
structure PartV where
  x : ExV
  size : Nat
  depth : Nat
def PartV.cells (p : PartV) : List Value := [.int .i64 p.x.op, .string p.x.name, .slice p.x.aw p.x.nw p.x.cw, .int .i64 p.x.lo, .int .i64 p.x.hi, .slice p.x.aa p.x.na p.x.ca, .int .i64 p.size, .int .i64 p.depth]
def PartV.val (p : PartV) : Value := .agg #[.int .i64 p.x.op, .string p.x.name, .slice p.x.aw p.x.nw p.x.cw, .int .i64 p.x.lo, .int .i64 p.x.hi, .slice p.x.aa p.x.na p.x.ca, .int .i64 p.size, .int .i64 p.depth]
def PartR (w : World) (p : Part) (v : PartV) : Prop := v.size = p.size ∧ v.depth = p.depth ∧ IsEx w p.ex v.x.val
def PartsR (w : World) (ps : List Part) (vs : List PartV) : Prop := ps.length = vs.length ∧ ∀ i (h1 : i < ps.length) (h2 : i < vs.length), PartR w ps[i] vs[i]
theorem PartR.mono {w w' : World} {p : Part} {v : PartV} (h : PartR w p v) (hs : Sub w w') : PartR w' p v := ⟨h.1, h.2.1, h.2.2.mono hs⟩
theorem PartsR.mono {w w' : World} {ps : List Part} {vs : List PartV} (h : PartsR w ps vs) (hs : Sub w w') : PartsR w' ps vs := ⟨h.1, fun i h1 h2 => (h.2 i h1 h2).mono hs⟩

def ex0 : Ex := .mk 0 ⟨#[]⟩ [] 0 0 []
def sumSize : List Part → Nat
  | [] => 0
  | p :: r => p.size + sumSize r
def maxDepth (l : List Part) : Nat := l.foldl (fun d p => max d p.depth) 0
def composedF (op : Int) (l : List Part) : Part :=
  if 300 < 1 + sumSize l ∨ 16 < maxDepth l + 1 then ⟨ex0, 1 + sumSize l, maxDepth l + 1⟩ else ⟨.mk op ⟨#[]⟩ [] 0 0 (l.map (·.ex)), 1 + sumSize l, maxDepth l + 1⟩
def joinedF (op : Int) (l : List Part) : Part := match l with | [p] => p | l => composedF op l

theorem sumSize_take_succ : (l : List Part) → (k : Nat) → (hk : k < l.length) → sumSize (l.take (k + 1)) = sumSize (l.take k) + l[k].size
  | [], k, hk => by simp at hk
  | e :: r, 0, _ => by simp [sumSize]
  | e :: r, k + 1, hk => by
    have := sumSize_take_succ r k (by simpa using hk)
    simp [sumSize] at this ⊢
    omega
theorem sumSize_take_le : (l : List Part) → (k : Nat) → sumSize (l.take k) ≤ sumSize l
  | [], k => by simp [sumSize]
  | e :: r, 0 => by simp [sumSize]
  | e :: r, k + 1 => by
    have := sumSize_take_le r k
    simp [sumSize]; omega
theorem sumSize_append : (l m : List Part) → sumSize (l ++ m) = sumSize l + sumSize m
  | [], m => by simp [sumSize]
  | e :: r, m => by have := sumSize_append r m; simp [sumSize]; omega
theorem maxDepth_take_succ (l : List Part) (k : Nat) (hk : k < l.length) : maxDepth (l.take (k + 1)) = max (maxDepth (l.take k)) l[k].depth := by
  rw [List.take_succ_eq_append_getElem hk]
  unfold maxDepth
  rw [List.foldl_append]
  rfl

theorem blk_cell {w : World} {b : Nat} {cs : Array Value} {t : TypeId} (h : w.heap[b]? = some (.cells cs t (0, 0))) (j : Nat) : w.cell? ⟨b, j, none⟩ = cs[j]? := cell_of_row w b j cs t (0, 0) h
theorem blk_free {w : World} {b : Nat} {cs : Array Value} {t : TypeId} (h : w.heap[b]? = some (.cells cs t (0, 0))) (j : Nat) : w.frozen? ⟨b, j, none⟩ = false := frozen_of_row w b j cs t h
theorem blk_lt {w : World} {b : Nat} {o : Obj} (h : w.heap[b]? = some o) : b < w.heap.size := (Array.getElem?_eq_some_iff.1 h).1
theorem Ext.blk {w w' : World} (h : Ext w w') {b : Nat} {o : Obj} (hb : w.heap[b]? = some o) : w'.heap[b]? = some o := (h.block b (blk_lt hb)).trans hb
theorem alloc_new (w : World) (o : Obj) : (w.alloc o).heap[w.heap.size]? = some o := by show (w.heap.push o)[w.heap.size]? = _; simp
theorem blk_alloc {w : World} {b : Nat} {o o' : Obj} (hb : w.heap[b]? = some o) : (w.alloc o').heap[b]? = some o := (Below.heap_alloc w o' b (blk_lt hb)).trans hb

theorem blk8 {w : World} {b : Nat} {v0 v1 v2 v3 v4 v5 v6 v7 : Value} {t : TypeId} (h : w.heap[b]? = some (.cells #[v0, v1, v2, v3, v4, v5, v6, v7] t (0, 0))) :
    w.cell? ⟨b, 0, none⟩ = some v0 ∧ w.cell? ⟨b, 1, none⟩ = some v1 ∧ w.cell? ⟨b, 2, none⟩ = some v2 ∧ w.cell? ⟨b, 3, none⟩ = some v3 ∧ w.cell? ⟨b, 4, none⟩ = some v4 ∧ w.cell? ⟨b, 5, none⟩ = some v5 ∧ w.cell? ⟨b, 6, none⟩ = some v6 ∧ w.cell? ⟨b, 7, none⟩ = some v7 ∧
    (∀ j, w.frozen? ⟨b, j, none⟩ = false) :=
  ⟨blk_cell h 0, blk_cell h 1, blk_cell h 2, blk_cell h 3, blk_cell h 4, blk_cell h 5, blk_cell h 6, blk_cell h 7, fun j => blk_free h j⟩
theorem blk3 {w : World} {b : Nat} {v0 v1 v2 : Value} {t : TypeId} (h : w.heap[b]? = some (.cells #[v0, v1, v2] t (0, 0))) :
    w.cell? ⟨b, 0, none⟩ = some v0 ∧ w.cell? ⟨b, 1, none⟩ = some v1 ∧ w.cell? ⟨b, 2, none⟩ = some v2 ∧ (∀ j, w.frozen? ⟨b, j, none⟩ = false) :=
  ⟨blk_cell h 0, blk_cell h 1, blk_cell h 2, fun j => blk_free h j⟩

theorem run_make1 {t e : TypeId} {z : Value} {size bytes : Nat} (E : ElemT t e z size bytes) (W : World) (n : Nat) (hb : bytes * n ≤ 281474976710656) (hn : n ≤ 1000000000000000) :
    Sem.run Tryz.prog (Instr.makeSlice t (.int .i64 (n : Int)) (.int .i64 (n : Int))) W = .ok (.slice (some ⟨W.heap.size, 0, none⟩) n n) (W.alloc (.cells (madeCells z.cells (n * size)) e)) := by
  obtain ⟨i, hi, hz, hs, hby⟩ := info_parts E.info
  have := run_make (P := Tryz.prog) W t e i z E.ht hi hz .i64 .i64 n n (by omega) (by omega) (by rw [hby, ← Int.natCast_mul]; omega) (by omega)
  rw [hs] at this
  simpa using this

/-- Expressions that lie one after the other. -/
theorem ExsD.of {w : World} {b : Nat} : (l : List Ex) → (off : Nat) → (xs : List ExV) → l.length = xs.length →
    (∀ i (h1 : i < l.length) (h2 : i < xs.length), (∀ j, j < 6 → w.cell? ⟨b, off + i * 6 + j, none⟩ = xs[i].cells[j]?) ∧ IsEx w l[i] xs[i].val) → ExsD w l (some ⟨b, off, none⟩)
  | [], _, _, _, _ => by unfold ExsD; trivial
  | .mk op name words lo hi args :: r, off, [], hl, _ => by simp at hl
  | .mk op name words lo hi args :: r, off, x :: xs, hl, h => by
    unfold ExsD
    obtain ⟨h1, h2⟩ := h 0 (by simp) (by simp)
    simp only [List.getElem_cons_zero, Nat.zero_mul, Nat.add_zero] at h1 h2
    obtain ⟨aw, nw, cw, aa, na, ca, e1, g1, g2, g3, g4, g5⟩ := h2.parts
    simp only [ExV.val, exV, Value.agg.injEq, Ex.op, Ex.name, Ex.lo, Ex.hi, Ex.words, Ex.args] at e1 g1 g2 g5
    simp at e1
    obtain ⟨e2, e3, ⟨e4, e5, e6⟩, e7, e8, e9, e10, e11⟩ := e1
    refine ⟨b, off, rfl, ⟨aw, nw, cw, aa, na, ca, ?_, ?_, ?_, ?_, ?_, ?_, g1, g2, g3, g4, g5⟩, ?_⟩
    · have := h1 0 (by omega); simpa [ExV.cells, e2] using this
    · have := h1 1 (by omega); simpa [ExV.cells, e3] using this
    · have := h1 2 (by omega); simpa [ExV.cells, e4, e5, e6] using this
    · have := h1 3 (by omega); simpa [ExV.cells, e7] using this
    · have := h1 4 (by omega); simpa [ExV.cells, e8] using this
    · have := h1 5 (by omega); simpa [ExV.cells, e9, e10, e11] using this
    · refine ExsD.of r (off + 6) xs (by simpa using hl) fun i h3 h4 => ?_
      have := h (i + 1) (by simpa using h3) (by simpa using h4)
      simp only [List.getElem_cons_succ] at this
      rw [show off + (i + 1) * 6 = off + 6 + i * 6 by omega] at this
      exact this

end Go.Proofs.YtfjlglefodndjaaGreatDoor

namespace Go.Proofs.YtfjlglefodndjaaGreatDoor
open Go.RowKit

/-- A part is handed back; nothing that was there has changed. -/
def PartQ (p : Part) (M : List Nat) (w : World) (e : Ending) (w' : World) : Prop := ∃ v : PartV, e = .returned v.val ∧ PartR (mask w' M) p v ∧ Ext w w'

/-- Each depth is at most the size. -/
def Tidy (l : List Part) : Prop := ∀ p ∈ l, p.depth ≤ p.size
theorem maxDepth_le {l : List Part} (h : Tidy l) (k : Nat) : maxDepth (l.take k) ≤ sumSize (l.take k) := by
  induction k with
  | zero => simp [maxDepth, sumSize]
  | succ k ih =>
    by_cases hk : k < l.length
    · rw [maxDepth_take_succ l k hk, sumSize_take_succ l k hk]
      have := h _ (List.getElem_mem hk)
      omega
    · rw [List.take_of_length_le (by omega)] at ih ⊢
      exact ih

theorem elemEx : ElemT 27 29 (.agg #[.int .i64 0, .string ⟨#[]⟩, .slice none 0 0, .int .i64 0, .int .i64 0, .slice none 0 0]) 6 88 := ⟨by kernel_rfl, by kernel_rfl, rfl, by decide⟩

/-- The cells of the part that is being composed. -/
def wholeCells (s d : Int) : Array Value := #[.int .i64 0, .string ⟨#[]⟩, .slice none 0 0, .int .i64 0, .int .i64 0, .slice none 0 0, .int .i64 s, .int .i64 d]

theorem isEx0 (w : World) : IsEx w ex0 (exV 0 ⟨#[]⟩ none 0 0 0 0 none 0 0) := by
  unfold ex0
  refine IsEx.mk ⟨rfl, by omega, Or.inl ⟨rfl, rfl⟩, fun i hi => by simp at hi⟩ rfl (by omega) (Or.inl ⟨rfl, rfl⟩) ?_
  unfold ExsD
  trivial

/-- The cells of the part that is composed of arguments in block bm. -/
def fullCells (op : Int) (bm n : Nat) (s d : Int) : Array Value := #[.int .i64 op, .string ⟨#[]⟩, .slice none 0 0, .int .i64 0, .int .i64 0, .slice (some ⟨bm, 0, none⟩) n n, .int .i64 s, .int .i64 d]
/-- The first k records of the row cs are those of vs. -/
def Filled (vs : List PartV) (k : Nat) (cs : Array Value) : Prop := ∀ i (h : i < vs.length), i < k → ∀ j, j < 6 → cs[i * 6 + j]? = vs[i].x.cells[j]?
theorem filled_step {vs : List PartV} {k n : Nat} {cs : Array Value} (h : Filled vs k cs) (hk : k < vs.length) (hn : cs.size = n * 6) (hkn : k < n) {v0 v1 v2 v3 v4 v5 : Value} (hv : vs[k].x.cells = [v0, v1, v2, v3, v4, v5]) :
    Filled vs (k + 1) ((((((cs.setIfInBounds (k * 6) v0).setIfInBounds (k * 6 + 1) v1).setIfInBounds (k * 6 + 2) v2).setIfInBounds (k * 6 + 3) v3).setIfInBounds (k * 6 + 4) v4).setIfInBounds (k * 6 + 5) v5) := by
  intro i hi hik j hj
  simp only [Array.getElem?_setIfInBounds, Array.size_setIfInBounds]
  by_cases hlt : i < k
  · rw [if_neg (by omega), if_neg (by omega), if_neg (by omega), if_neg (by omega), if_neg (by omega), if_neg (by omega)]
    exact h i hi hlt j hj
  · obtain rfl : i = k := by omega
    rw [hv]
    match j, hj with
    | 0, _ => rw [if_neg (by omega), if_neg (by omega), if_neg (by omega), if_neg (by omega), if_neg (by omega), if_pos (by omega), if_pos (by omega)]; rfl
    | 1, _ => rw [if_neg (by omega), if_neg (by omega), if_neg (by omega), if_neg (by omega), if_pos (by omega), if_pos (by omega)]; rfl
    | 2, _ => rw [if_neg (by omega), if_neg (by omega), if_neg (by omega), if_pos (by omega), if_pos (by omega)]; rfl
    | 3, _ => rw [if_neg (by omega), if_neg (by omega), if_pos (by omega), if_pos (by omega)]; rfl
    | 4, _ => rw [if_neg (by omega), if_pos (by omega), if_pos (by omega)]; rfl
    | 5, _ => rw [if_pos (by omega), if_pos (by omega)]; rfl

theorem composed_fin {w W : World} {op : Int} {ps : List Part} {vs : List PartV} {bm n : Nat} {cs : Array Value} {M : List Nat} (hM : ∀ k ∈ M, k < w.heap.size) (hx : Ext w W) (hbm : w.heap.size ≤ bm) (hb : W.heap[bm]? = some (.cells cs 29 (0, 0)))
    (hf : Filled vs n cs) (hR : PartsR (mask w M) ps vs) (hn : n = ps.length) : IsEx (mask W M) (.mk op ⟨#[]⟩ [] 0 0 (ps.map (·.ex))) (exV op ⟨#[]⟩ none 0 0 0 0 (some ⟨bm, 0, none⟩) n n) := by
  refine IsEx.mk ⟨rfl, by omega, Or.inl ⟨rfl, rfl⟩, fun i hi => by simp at hi⟩ (by simpa using hn) (Nat.le_refl _) (Or.inr ⟨bm, 0, rfl⟩) ?_
  refine ExsD.of (ps.map (·.ex)) 0 (vs.map (·.x)) (by simpa using hR.1) fun i h1 h2 => ⟨fun j hj => ?_, ?_⟩
  · simp only [List.length_map] at h1 h2
    rw [mask_cell, if_neg (fun h => by have := hM _ h; simp at this; omega), blk_cell hb, Nat.zero_add, hf i h2 (by omega) j hj]
    simp
  · simp only [List.length_map] at h1 h2
    have := (hR.2 i h1 h2).2.2.mono (mask_ext M hx)
    simpa using this

theorem joinedF_one (op : Int) (p : Part) : joinedF op [p] = p := rfl
theorem joinedF_first (op : Int) (l : List Part) (h : l.length = 1) (h0 : 0 < l.length) : joinedF op l = l[0] := by
  match l, h with
  | [p], _ => rfl
theorem joinedF_many (op : Int) (l : List Part) (h : l.length ≠ 1) : joinedF op l = composedF op l := by
  match l, h with
  | [], _ => rfl
  | [_], h => simp at h
  | _ :: _ :: _, _ => rfl

end Go.Proofs.YtfjlglefodndjaaGreatDoor

namespace Go.Proofs.YtfjlglefodndjaaGreatDoor
open Go.RowKit

/-- The value of the bytes from k on as digits, after n; none beyond the greatest amount. -/
def decF (s : ByteArray) : Nat → Nat → Int → Option Int
  | 0, _, n => some n
  | f + 1, k, n => if h : k < s.size then (if 17592186044416 < n * 10 + ((s[k].toNat : Int) - 48) then none else decF s f (k + 1) (n * 10 + ((s[k].toNat : Int) - 48))) else some n

theorem decF_step {s : ByteArray} {k : Nat} {n : Int} (h : k < s.size) (hn : ¬ 17592186044416 < n * 10 + ((s[k].toNat : Int) - 48)) : decF s (s.size - k) k n = decF s (s.size - (k + 1)) (k + 1) (n * 10 + ((s[k].toNat : Int) - 48)) := by
  obtain ⟨f, hf⟩ : ∃ f, s.size - k = f + 1 := ⟨s.size - k - 1, by omega⟩
  rw [hf, show s.size - (k + 1) = f by omega, decF, dif_pos h, if_neg hn]
theorem decF_over {s : ByteArray} {k : Nat} {n : Int} (h : k < s.size) (hn : 17592186044416 < n * 10 + ((s[k].toNat : Int) - 48)) : decF s (s.size - k) k n = none := by
  obtain ⟨f, hf⟩ : ∃ f, s.size - k = f + 1 := ⟨s.size - k - 1, by omega⟩
  rw [hf, decF, dif_pos h, if_pos hn]
theorem decF_end {s : ByteArray} {k : Nat} {n : Int} (h : ¬ k < s.size) : decF s (s.size - k) k n = some n := by
  rw [show s.size - k = 0 by omega, decF]

/-- The value and the error of a number with these digits. -/
def numOf (neg : Bool) (ds : ByteArray) : Int × Int :=
  if ds.size = 0 ∨ (byteAt ds 0 = 48 ∧ (neg = true ∨ 1 < ds.size)) then (0, 5) else
  match decF ds (ds.size - 0) 0 0 with
  | none => (0, 1)
  | some n => (if neg then -n else n, 0)
/-- The value and the error of a number's text. -/
def numberF (s : ByteArray) : Int × Int := if byteAt s 0 = 45 then numOf true (s.extract 1 s.size) else numOf false s

theorem isEmpty_false {s : ByteArray} (h : 0 < s.size) : s.toList.isEmpty = false := by
  rw [ByteArray.toList_eq]
  cases hd : s.data.toList with
  | nil => have : s.size = s.data.toList.length := (Array.length_toList).symm
           rw [hd] at this; rw [this] at h; exact absurd h (by decide)
  | cons a l => rfl
theorem isEmpty_true {s : ByteArray} (h : s.size = 0) : s.toList.isEmpty = true := by
  rw [ByteArray.toList_eq]
  have : s.size = s.data.toList.length := (Array.length_toList).symm
  rw [h] at this
  cases hd : s.data.toList with
  | nil => rfl
  | cons a l => rw [hd] at this; simp at this

def Digits (s : ByteArray) : Prop := ∀ i (h : i < s.size), 48 ≤ (s[i].toNat : Int) ∧ (s[i].toNat : Int) ≤ 57

/-- Two results, the world as it was. -/
def Gives2 (r : Int × Int) (w : World) (e : Ending) (w' : World) : Prop := e = .returned (.tuple #[.int .i64 r.1, .int .i64 r.2]) ∧ w = w'
theorem gives2 {r : Int × Int} {a b : Int} {w : World} (h : r = (a, b)) : Gives2 r w (.returned (.tuple #[.int .i64 a, .int .i64 b])) w := by subst h; exact ⟨rfl, rfl⟩


theorem size_tail (s : ByteArray) : (s.extract 1 s.size).size = s.size - 1 := by simp
theorem getElem_tail (s : ByteArray) (k : Nat) (h : k < (s.extract 1 s.size).size) : (s.extract 1 s.size)[k] = s[k + 1]'(by simp at h; omega) := by
  have := size_tail s
  rw [ByteArray.getElem_extract]
  congr 1
  omega

/-- The text of a number: digits, which a hyphen may precede. -/
def NumText (s : ByteArray) : Prop := 0 < s.size ∧ Digits (if byteAt s 0 = 45 then s.extract 1 s.size else s)
end Go.Proofs.YtfjlglefodndjaaGreatDoor
