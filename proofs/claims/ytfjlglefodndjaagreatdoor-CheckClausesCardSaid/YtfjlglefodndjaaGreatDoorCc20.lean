/-
  Texts of the claim, joined: Awk, Defd, GrowG.
-/
import Derived.Test.YtfjlglefodndjaaGreatDoorCc19
import Derived.Test.YtfjlglefodndjaaGreatDoorCc11
import Derived.Test.YtfjlglefodndjaaGreatDoorCc04
import Derived.Test.YtfjlglefodndjaaGreatDoorCc10
import Derived.Test.YtfjlglefodndjaaGreatDoorCc14
import Derived.Test.YtfjlglefodndjaaGreatDoorCc02
import Derived.Deep.DeepCutAuto
import Derived.Test.YtfjlglefodndjaaGreatDoorCc06
namespace Go.Proofs.YtfjlglefodndjaaGreatDoor
open Go.RowKit

/-- Clauses in a block of their own. -/
theorem isCls_block {w : World} {g : Nat} {vs : List ClV} {l : List Cl} {t : TypeId} (h : w.heap[g]? = some (.cells (vs.flatMap ClV.cells).toArray t (0, 0))) {n : Nat} (hn : n = vs.length) (hl : l.length = vs.length) (hs : ∀ i (h1 : i < l.length) (h2 : i < vs.length), vs[i].kind = l[i].kind ∧ vs[i].name = l[i].name ∧ IsEx w l[i].cond vs[i].x.val) :
    IsCls w l (some ⟨g, 0, none⟩) n n := by
  subst hn
  refine ⟨vs, ⟨rfl, Nat.le_refl _, Or.inr ⟨g, 0, rfl⟩, fun i hi => ⟨g, 0, rfl, fun j hj => ?_⟩⟩, hl, hs⟩
  rw [Nat.zero_add, blk_cell h]
  have := flatMap_at ClV.cells 10 ClV.len vs i hi j hj
  simpa using this
/-- Integers in a block of their own. -/
theorem isInts_block {w : World} {g : Nat} {l : List Int} {t : TypeId} (h : w.heap[g]? = some (.cells (l.map fun z => Value.int .i64 z).toArray t (0, 0))) {n : Nat} (hn : n = l.length) : IsInts w l (some ⟨g, 0, none⟩) n n := by
  subst hn
  refine ⟨rfl, Nat.le_refl _, Or.inr ⟨g, 0, rfl⟩, fun i hi => ⟨g, 0, rfl, ?_⟩⟩
  rw [Nat.zero_add, blk_cell h]
  simp [hi]
theorem IsInts.ext {w w' : World} {l : List Int} {a : Option Addr} {n c : Nat} (h : IsInts w l a n c) (he : Ext w w') : IsInts w' l a n c := h.mono he.sub
def nmA : ByteArray := ⟨#[97]⟩
def nmB : ByteArray := ⟨#[98]⟩
def exNm (s : ByteArray) : Ex := .mk 3 s [] 0 0 []
def exTrue : Ex := .mk 1 ⟨#[]⟩ [] 0 0 []
def cyc1 : List Cl := [⟨1, nmA, exNm nmB⟩, ⟨1, nmB, exNm nmA⟩]
def cyc2 : List Cl := [⟨1, nmA, exNm nmB⟩, ⟨1, nmB, exTrue⟩]
theorem dfn1 : cyc1.map Cl.dfn = [⟨true, nmA, [nmB]⟩, ⟨true, nmB, [nmA]⟩] := by kernel_rfl
theorem dfn2 : cyc2.map Cl.dfn = [⟨true, nmA, [nmB]⟩, ⟨true, nmB, []⟩] := by kernel_rfl
theorem no_topo1 {o : List Nat} (h : Topo (cyc1.map Cl.dfn) o) : False := by
  rw [dfn1] at h
  have h0 : 0 ∈ o := (h.all 0).2 rfl
  obtain ⟨i, hi⟩ : ∃ i, o[0]? = some i := by
    cases o with
    | nil => simp at h0
    | cons i r => exact ⟨i, rfl⟩
  have hd := (h.all i).1 (List.mem_of_getElem? hi)
  have hlt := isDef_lt hd
  simp at hlt
  have : i = 0 ∨ i = 1 := by omega
  rcases this with rfl | rfl
  · have := h.after 0 0 hi nmB (by decide +kernel) 1 (by decide +kernel); simp at this
  · have := h.after 0 1 hi nmA (by decide +kernel) 0 (by decide +kernel); simp at this
theorem topo2 {o : List Nat} (h : Topo (cyc2.map Cl.dfn) o) : o = [1, 0] := by
  rw [dfn2] at h
  have h0 : 0 ∈ o := (h.all 0).2 rfl
  have h1 : 1 ∈ o := (h.all 1).2 rfl
  have hof : ∀ i ∈ o, i = 0 ∨ i = 1 := fun i hi => by
    have := isDef_lt ((h.all i).1 hi)
    simp at this
    omega
  have hle : o.length ≤ 2 := by
    have := nodup_le o [0, 1] h.nodup (fun x hx => by rcases hof x hx with rfl | rfl <;> simp)
    simpa using this
  match o, hle with
  | [], _ => simp at h0
  | [x], _ => simp at h0 h1; omega
  | [x, y], _ =>
    rcases hof x (by simp) with rfl | rfl
    · have := h.after 0 0 rfl nmB (by decide +kernel) 1 (by decide +kernel); simp at this
    · simp at h0; rw [← h0]
  | x :: y :: z :: r, hle => simp at hle
theorem no_cyc2 {o : List Nat} (h : OInv (cyc2.map Cl.dfn) o []) (hc : o.length < countOf (cyc2.map Cl.dfn)) : False := by
  rw [dfn2] at h hc
  have h1 : 1 ∈ o := by
    have := (h.ready 1).2 ⟨rfl, by unfold missL; rfl⟩
    simpa using this
  have h0 : 0 ∈ o := by
    have := (h.ready 0).2 ⟨rfl, miss_nil.2 fun s hs d hd => by
      have hs' : s = nmB := by simpa [usesAt] using hs
      subst hs'
      have hd' : firstAt [⟨true, nmA, [nmB]⟩, ⟨true, nmB, []⟩] nmB = some 1 := by decide +kernel
      rw [hd'] at hd
      cases hd
      exact h1⟩
    simpa using this
  have hcc : countOf [⟨true, nmA, [nmB]⟩, ⟨true, nmB, []⟩] = 2 := by decide +kernel
  rw [hcc] at hc
  have := nodup_le [0, 1] o (by simp) (by simp [h0, h1])
  simp at this
  omega
theorem fits_plain {op lo hi : Int} {s : ByteArray} (h : s.size ≤ 1000000000000000) : (Ex.mk op s [] lo hi []).fits := by
  unfold Ex.fits
  exact ⟨h, by simp, by unfold fitsAll; trivial⟩
theorem size_plain (op lo hi : Int) (s : ByteArray) : (Ex.mk op s [] lo hi []).size = 1 := by simp [Ex.size, sizes]
theorem size1 (b : UInt8) : (⟨#[b]⟩ : ByteArray).size = 1 := rfl
theorem cyc_sizes : (∀ x ∈ cyc1, x.cond.size ≤ 100000 ∧ x.cond.fits ∧ x.name.size ≤ 1000000000000000) ∧ (∀ x ∈ cyc2, x.cond.size ≤ 100000 ∧ x.cond.fits ∧ x.name.size ≤ 1000000000000000) := by
  have ha : nmA.size ≤ 1000000000000000 := by unfold nmA; rw [size1]; omega
  have hb : nmB.size ≤ 1000000000000000 := by unfold nmB; rw [size1]; omega
  have h0 : (⟨#[]⟩ : ByteArray).size ≤ 1000000000000000 := by show 0 ≤ _; omega
  constructor
  · intro x hx
    simp only [cyc1, List.mem_cons, List.not_mem_nil, or_false] at hx
    rcases hx with rfl | rfl
    · exact ⟨by unfold exNm; rw [size_plain]; omega, fits_plain hb, ha⟩
    · exact ⟨by unfold exNm; rw [size_plain]; omega, fits_plain ha, hb⟩
  · intro x hx
    simp only [cyc2, List.mem_cons, List.not_mem_nil, or_false] at hx
    rcases hx with rfl | rfl
    · exact ⟨by unfold exNm; rw [size_plain]; omega, fits_plain hb, ha⟩
    · exact ⟨by unfold exTrue; rw [size_plain]; omega, fits_plain h0, hb⟩
def xvN (s : ByteArray) : ExV := ⟨3, s, none, 0, 0, 0, 0, none, 0, 0⟩
def xvT : ExV := ⟨1, ⟨#[]⟩, none, 0, 0, 0, 0, none, 0, 0⟩
def cvs1 : List ClV := [⟨1, nmA, xvN nmB, none, 0, 0, 0⟩, ⟨1, nmB, xvN nmA, none, 0, 0, 0⟩]
def cvs2 : List ClV := [⟨1, nmA, xvN nmB, none, 0, 0, 0⟩, ⟨1, nmB, xvT, none, 0, 0, 0⟩]
theorem isCls1 {w : World} {g : Nat} {t : TypeId} (h : w.heap[g]? = some (.cells (cvs1.flatMap ClV.cells).toArray t (0, 0))) : IsCls w cyc1 (some ⟨g, 0, none⟩) 2 2 :=
  isCls_block (vs := cvs1) h rfl rfl fun i h1 h2 => by
    have : i = 0 ∨ i = 1 := by simp [cyc1] at h1; omega
    rcases this with rfl | rfl
    · exact ⟨rfl, rfl, isEx_plain w 3 0 0 nmB⟩
    · exact ⟨rfl, rfl, isEx_plain w 3 0 0 nmA⟩
theorem isCls2 {w : World} {g : Nat} {t : TypeId} (h : w.heap[g]? = some (.cells (cvs2.flatMap ClV.cells).toArray t (0, 0))) : IsCls w cyc2 (some ⟨g, 0, none⟩) 2 2 :=
  isCls_block (vs := cvs2) h rfl rfl fun i h1 h2 => by
    have : i = 0 ∨ i = 1 := by simp [cyc2] at h1; omega
    rcases this with rfl | rfl
    · exact ⟨rfl, rfl, isEx_plain w 3 0 0 nmB⟩
    · exact ⟨rfl, rfl, isEx_plain w 1 0 0 ⟨#[]⟩⟩
theorem cyc1_ends {w w' : World} {e : Ending} (h : OrdQ (cyc1.map Cl.dfn) w e w') : e = .returned (.tuple #[.slice none 0 0, .int .i64 10]) ∧ Ext w w' := by
  obtain ⟨hx, ⟨o, a, c, ht, _⟩ | ⟨o, h1, h2, h3⟩⟩ := h
  · exact absurd ht fun ht => no_topo1 ht
  · exact ⟨h3, hx⟩
theorem cyc2_ends {w w' : World} {e : Ending} (h : OrdQ (cyc2.map Cl.dfn) w e w') : ∃ a c, e = .returned (.tuple #[.slice a 2 c, .int .i64 0]) ∧ IsInts w' [1, 0] a 2 c ∧ Ext w w' := by
  obtain ⟨hx, ⟨o, a, c, ht, h1, h2⟩ | ⟨o, h1, h2, h3⟩⟩ := h
  · have := topo2 ht
    subst this
    exact ⟨a, c, h1, h2, hx⟩
  · exact (no_cyc2 h1 h2).elim
theorem alloc_at2 {w : World} {o : Obj} {n : Nat} (h : n = w.heap.size) : (w.alloc o).heap[n]? = some o := by subst h; exact alloc_new w o
theorem blk10 {w : World} {b : Nat} {v0 v1 v2 v3 v4 v5 v6 v7 v8 v9 : Value} {t : TypeId} (h : w.heap[b]? = some (.cells #[v0, v1, v2, v3, v4, v5, v6, v7, v8, v9] t (0, 0))) :
    w.cell? ⟨b, 0, none⟩ = some v0 ∧ w.cell? ⟨b, 1, none⟩ = some v1 ∧ w.cell? ⟨b, 2, none⟩ = some v2 ∧ w.cell? ⟨b, 3, none⟩ = some v3 ∧ w.cell? ⟨b, 4, none⟩ = some v4 ∧ w.cell? ⟨b, 5, none⟩ = some v5 ∧ w.cell? ⟨b, 6, none⟩ = some v6 ∧ w.cell? ⟨b, 7, none⟩ = some v7 ∧ w.cell? ⟨b, 8, none⟩ = some v8 ∧ w.cell? ⟨b, 9, none⟩ = some v9 ∧ (∀ j, w.frozen? ⟨b, j, none⟩ = false) :=
  ⟨blk_cell h 0, blk_cell h 1, blk_cell h 2, blk_cell h 3, blk_cell h 4, blk_cell h 5, blk_cell h 6, blk_cell h 7, blk_cell h 8, blk_cell h 9, fun j => blk_free h j⟩
set_option maxRecDepth 100000 in
set_option maxHeartbeats 2000000 in
theorem awake10_calls (w : World) : Calls Tryz.prog 6 #[] w (GivesE (.bool true) w) := by
  go_enter Tryz.func6, Tryz.ntmps6
  go_wp2_with fail
  obtain ⟨wa, hwa⟩ : ∃ wa, wa = w.alloc (.cells (ClV.cells ⟨1, nmA, xvN nmB, none, 0, 0, 0⟩).toArray 38) := ⟨_, rfl⟩
  obtain ⟨wb, hwb⟩ : ∃ wb, wb = wa.alloc (.cells (ClV.cells ⟨1, nmB, xvN nmA, none, 0, 0, 0⟩).toArray 38) := ⟨_, rfl⟩
  obtain ⟨wc, hwc⟩ : ∃ wc, wc = wb.alloc (.cells (cvs1.flatMap ClV.cells).toArray 38) := ⟨_, rfl⟩
  have hza : wa.heap.size = w.heap.size + 1 := by rw [hwa]; simp
  have hzb : wb.heap.size = w.heap.size + 2 := by rw [hwb]; simp [hza]
  have ha := by have := alloc_new w (.cells (ClV.cells ⟨1, nmA, xvN nmB, none, 0, 0, 0⟩).toArray 38); rw [← hwa] at this; exact this
  have hb := by have := alloc_new wa (.cells (ClV.cells ⟨1, nmB, xvN nmA, none, 0, 0, 0⟩).toArray 38); rw [← hwb, hza] at this; exact this
  have hc := by have := alloc_new wb (.cells (cvs1.flatMap ClV.cells).toArray 38); rw [← hwc, hzb] at this; exact this
  have xa : Ext w wa := by rw [hwa]; exact (Ext.refl _).alloc _
  have xb : Ext wa wb := by rw [hwb]; exact (Ext.refl _).alloc _
  have xc : Ext wb wc := by rw [hwc]; exact (Ext.refl _).alloc _
  have HC := Lib.hid (order_calls cyc1 (some ⟨w.heap.size + 2, 0, none⟩) 2 2 wc (isCls1 hc) (by omega) cyc_sizes.1)
  have HA := Lib.hid ((xb.trans xc).blk ha)
  have HB := Lib.hid (xc.blk hb)
  have HX := Lib.hid ((xa.trans xb).trans xc)
  have e1 : ((w.alloc (Obj.cells #[.int .i64 1, .string ⟨#[97]⟩, .int .i64 3, .string ⟨#[98]⟩, .slice none 0 0, .int .i64 0, .int .i64 0, .slice none 0 0, .slice none 0 0, .int .i64 0] 38)).alloc (Obj.cells #[.int .i64 1, .string ⟨#[98]⟩, .int .i64 3, .string ⟨#[97]⟩, .slice none 0 0, .int .i64 0, .int .i64 0, .slice none 0 0, .slice none 0 0, .int .i64 0] 38)).alloc (Obj.cells #[.int .i64 1, .string ⟨#[97]⟩, .int .i64 3, .string ⟨#[98]⟩, .slice none 0 0, .int .i64 0, .int .i64 0, .slice none 0 0, .slice none 0 0, .int .i64 0, .int .i64 1, .string ⟨#[98]⟩, .int .i64 3, .string ⟨#[97]⟩, .slice none 0 0, .int .i64 0, .int .i64 0, .slice none 0 0, .slice none 0 0, .int .i64 0] 38) = wc := by rw [hwc, hwb, hwa]; rfl
  rw [e1]
  clear ha hb hc xa xb xc e1 hza hzb hwa hwb hwc
  refine HC.out.mono ?_
  intro r w1 hq
  obtain ⟨rfl, hx1⟩ := cyc1_ends hq
  have hA1 := hx1.blk HA.out
  have hB1 := hx1.blk HB.out
  have HX1 := Lib.hid (HX.out.trans hx1)
  clear hq HC HA HB HX hx1
  have hla := blk_lt hA1
  have hlb := blk_lt hB1
  obtain ⟨a0, a1, a2, a3, a4, a5, a6, a7, a8, a9, af⟩ := blk10 (v0 := .int .i64 1) (v1 := .string ⟨#[97]⟩) (v2 := .int .i64 3) (v3 := .string ⟨#[98]⟩) (v4 := .slice none 0 0) (v5 := .int .i64 0) (v6 := .int .i64 0) (v7 := .slice none 0 0) (v8 := .slice none 0 0) (v9 := .int .i64 0) hA1
  obtain ⟨b0, b1, b2, b3, b4, b5, b6, b7, b8, b9, bf⟩ := blk10 (v0 := .int .i64 1) (v1 := .string ⟨#[98]⟩) (v2 := .int .i64 3) (v3 := .string ⟨#[97]⟩) (v4 := .slice none 0 0) (v5 := .int .i64 0) (v6 := .int .i64 0) (v7 := .slice none 0 0) (v8 := .slice none 0 0) (v9 := .int .i64 0) hB1
  clear hA1 hB1
  have hw1 := HX1.out.size
  go_wp2_with fail
  refine (order_calls cyc2 (some ⟨w1.heap.size, 0, none⟩) 2 2 _ (isCls2 (t := 38) (alloc_at2 (by simp))) (by omega) cyc_sizes.2).mono ?_
  intro r w2 hq
  obtain ⟨la, lc, rfl, hl, hx2⟩ := cyc2_ends hq
  have HX2 := Lib.hid (((((((HX1.out.setAbove (p := ⟨w.heap.size + 1, 2, none⟩) (by simp) (.int .i64 1)).setAbove (p := ⟨w.heap.size + 1, 3, none⟩) (by simp) (.string ⟨#[]⟩)).setAbove (p := ⟨w.heap.size + 1, 4, none⟩) (by simp) (.slice none 0 0)).setAbove (p := ⟨w.heap.size + 1, 5, none⟩) (by simp) (.int .i64 0)).setAbove (p := ⟨w.heap.size + 1, 6, none⟩) (by simp) (.int .i64 0)).setAbove (p := ⟨w.heap.size + 1, 7, none⟩) (by simp) (.slice none 0 0)).alloc (Obj.cells (cvs2.flatMap ClV.cells).toArray 38))
  have HX3 := Lib.hid (HX2.out.trans hx2)
  have HL := Lib.hid hl
  clear hq hl hx2 HX2 HX1 a0 a1 a2 a3 a4 a5 a6 a7 a8 a9 af b0 b1 b2 b3 b4 b5 b6 b7 b8 b9 bf hla hlb hw1
  go_wp2_with fail
  refine (sameInts_calls [1, 0] [1, 0] la 2 lc (some ⟨w2.heap.size, 0, none⟩) 2 2 _ (HL.out.ext ((Ext.refl _).alloc _)) (isInts_block (l := [1, 0]) (alloc_new w2 _) rfl) (by omega)).mono ?_
  rintro r w3 ⟨rfl, q, rfl⟩
  go_wp2_with fail
  go_ret
  exact ⟨rfl, (HX3.out.alloc _).drewN _⟩
end Go.Proofs.YtfjlglefodndjaaGreatDoor

namespace Go.Proofs.YtfjlglefodndjaaGreatDoor
open Go.RowKit

theorem elemCla : ElemT 25 38 (.agg #[.int .i64 0, .string ⟨#[]⟩, .int .i64 0, .string ⟨#[]⟩, .slice none 0 0, .int .i64 0, .int .i64 0, .slice none 0 0, .slice none 0 0, .int .i64 0]) 10 144 := ⟨by kernel_rfl, by kernel_rfl, rfl, by decide⟩
/-- A name of one byte. -/
def Nm1 (s : ByteArray) : Prop := ∃ b : UInt8, s = ⟨#[b]⟩
/-- The conditions that defined makes. -/
def CondOk (e : Ex) : Prop := e = exTrue ∨ (∃ s, Nm1 s ∧ e = exNm s) ∨ ∃ ns : List ByteArray, (∀ s ∈ ns, Nm1 s) ∧ ns.length ≤ 3 ∧ e = .mk 7 ⟨#[]⟩ [] 0 0 (ns.map exNm)
def DfnOk (c : Cla) : Prop := (c.kind = 1 ∨ c.kind = 2) ∧ Nm1 c.name ∧ CondOk c.cond ∧ c.unl = [] ∧ c.amount = 0
/-- Clauses and their cells. -/
def ClasR (w : World) (l : List Cla) (vs : List ClV) : Prop := l.length = vs.length ∧ ∀ i (h1 : i < l.length) (h2 : i < vs.length), IsCla w l[i] vs[i]
theorem ClasR.mono {w w' : World} {l : List Cla} {vs : List ClV} (h : ClasR w l vs) (hs : Sub w w') : ClasR w' l vs := ⟨h.1, fun i h1 h2 => (h.2 i h1 h2).mono hs⟩
theorem ClasR.snoc {w : World} {l : List Cla} {vs : List ClV} {c : Cla} {v : ClV} (h : ClasR w l vs) (hc : IsCla w c v) : ClasR w (l ++ [c]) (vs ++ [v]) := by
  refine ⟨by simp [h.1], fun i h1 h2 => ?_⟩
  by_cases hi : i < l.length
  · have hi2 : i < vs.length := by rw [← h.1]; exact hi
    simp only [List.getElem_append_left hi, List.getElem_append_left hi2]
    exact h.2 i hi hi2
  · have e1 : i = l.length := by simp at h1; omega
    subst e1
    simp only [List.getElem_append_right (Nat.le_refl _), List.getElem_append_right (show vs.length ≤ l.length by rw [h.1]; exact Nat.le_refl _), Nat.sub_self, List.getElem_cons_zero]
    simpa [h.1] using hc
/-- Clauses in a row that the call owns. -/
theorem clas_owns {w : World} {M : List Nat} {base : Nat} {v : Value} {l : List Cla} {vs : List ClV} (h : w.ownsRow base 38 10 v l.length (vs.flatMap ClV.cells)) (hM : ∀ k, v.ownBlock = some k → k ∉ M) (hR : ClasR (mask w M) l vs) :
    ∃ a c, v = .slice a l.length c ∧ IsClas (mask w M) l a l.length c := by
  rw [hR.1] at h
  obtain ⟨a, c, rfl, hr⟩ := IsRows.of_owns ClV.len h
  refine ⟨a, c, by rw [hR.1], vs, ?_, hR.1, hR.2⟩
  refine ⟨hR.1, by rw [hR.1]; exact hr.2.1, hr.2.2.1, fun i hi => ?_⟩
  obtain ⟨b, off, e, hc⟩ := hr.2.2.2 i hi
  subst e
  refine ⟨b, off, rfl, fun j hj => ?_⟩
  rw [mask_cell, if_neg (hM b rfl)]
  exact hc j hj
def xvNs (ns : List ByteArray) : List ExV := ns.map xvN
/-- The clause that is being made, in its box. -/
def BoxC (w wr : World) (bd bc : Nat) (N : List Nat) (wx : World) : Prop := ∃ (c : ClV) (e : Ex), wx.heap[bc]? = some (.cells c.cells.toArray 38 (0, 0)) ∧ (c.kind = 1 ∨ c.kind = 2) ∧ Nm1 c.name ∧ CondOk e ∧ IsEx (mask wx (bd :: bc :: N)) e c.x.val ∧ c.au = none ∧ c.nu = 0 ∧ c.cu = 0 ∧ c.amount = 0 ∧ Chg [bd] wr wx ∧ DeckAt w wx bd
/-- What is made after k clauses. -/
def DefL (w : World) (bd : Nat) (v i : Value) (wr : World) : Prop := ∃ (k : Nat) (l : List Cla) (vs : List ClV), k ≤ 9 ∧ i = .int .i64 k ∧ l.length = k ∧ (∀ c ∈ l, DfnOk c) ∧ wr.ownsRow w.heap.size 38 10 v k (vs.flatMap ClV.cells) ∧ ClasR (mask wr ([bd] ++ rowOf v)) l vs ∧ DeckAt w wr bd ∧ bd ∉ rowOf v
/-- The arguments that are being made. -/
def ArgL (w wa : World) (bd : Nat) (v i : Value) (wr : World) : Prop := ∃ (ns : List ByteArray) (j : Int), i = .int .i64 j ∧ 0 ≤ j ∧ j + ns.length ≤ 3 ∧ (∀ s ∈ ns, Nm1 s) ∧ wr.ownsRow wa.heap.size 29 6 v ns.length ((xvNs ns).flatMap ExV.cells) ∧ DeckAt w wr bd ∧ Chg [bd] wa wr
/-- The clause in its box, and the row of its arguments. -/
def BoxR (w wr : World) (bd bc : Nat) (N : List Nat) (base : Nat) (ns : List ByteArray) (aa : Option Addr) (ac : Nat) (wx : World) : Prop := BoxC w wr bd bc N wx ∧ wx.ownsRow base 29 6 (.slice aa ns.length ac) ns.length ((xvNs ns).flatMap ExV.cells)
theorem BoxC.step {w wr wx wy : World} {bd bc : Nat} {N : List Nat} (h : BoxC w wr bd bc N wx) (hc : Chg [bd] wx wy) (hd : DeckAt w wy bd) (hne : bd ≠ bc) : BoxC w wr bd bc N wy := by
  obtain ⟨c, e, h1, h2, h3, h4, h5, h6, h7, h8, h9, h10, h11⟩ := h
  refine ⟨c, e, hc.blk h1 (by simpa using fun h => hne h.symm), h2, h3, h4, h5.mono (mask_sub_mask fun k hk hn => ⟨hn, hc.block k hk fun hm => hn (by simp only [List.mem_singleton] at hm; simp [hm])⟩), h6, h7, h8, h9, h10.then hc, hd⟩
theorem exs_names {w : World} (ns : List ByteArray) : ExsR w (ns.map exNm) (xvNs ns) := by
  refine ⟨by simp [xvNs], fun i h1 h2 => ?_⟩
  simp only [List.getElem_map, xvNs]
  exact isEx_plain w 3 0 0 _
def DefQ (w : World) (e : Ending) (w' : World) : Prop := ∃ l a n c, e = .returned (.slice a n c) ∧ IsClas w' l a n c ∧ (∀ x ∈ l, DfnOk x) ∧ l.length ≤ 9 ∧ Ext w w'
end Go.Proofs.YtfjlglefodndjaaGreatDoor

namespace Go.Proofs.YtfjlglefodndjaaGreatDoor
open Go.RowKit

/-! The law of XGrow for regions with guarded operations, where every guard is met: what the guards look at is known. -/
/-- An edge by which a value goes. -/
def isDataG (e : Edge) : Bool := match e.ground with | .data => true | .guard => true | _ => false
/-- What is asked of the operations below m: no guard, no select; they look at slots of operations alone that come before them; the m-th (if there is one) comes last. -/
def okGrowG (ops : Array Oper) (m n : Nat) : Bool :=
  Region.noSelect ops && decide (m ≤ ops.size) && decide (ops.size ≤ m + 1) &&
  ((List.range ops.size).all fun i => (List.range ops.size).all fun j => i == j || dstAt ops i == none || dstAt ops i != dstAt ops j) &&
  ((List.range ops.size).all fun i => match ops[i]? with
    | none => false
    | some o => ((match o.guard with | none => true | some (j, _) => (match dstAt ops j with | none => false | some t => decide (t < n)) && o.after.any (fun e => isDataG e && e.on == j)) || i == m) && (o.after.all fun e => (!Region.binds .any e || decide (e.on < i)) && (!isDataG e || Region.binds .any e)) &&
      ((List.range m).all fun j => match dstAt ops j with
        | none => true
        | some t => !(o.looksAt ops).contains t || (i == m) || o.after.any (fun e => Region.binds .any e && e.on == j)) &&
      (i != m || (List.range m).all fun j => o.after.any (fun e => Region.binds .any e && e.on == j)))

theorem okGrow_specG {ops : Array Oper} {m n : Nat} (h : okGrowG ops m n = true) : Region.noSelect ops = true ∧ m ≤ ops.size ∧ ops.size ≤ m + 1 ∧ DstApart ops ∧
    (∀ i o, ops[i]? = some o → (i < m → ∀ j b, o.guard = some (j, b) → ∃ t, dstAt ops j = some t ∧ t < n ∧ ∃ e ∈ o.after, isDataG e = true ∧ e.on = j) ∧ (∀ e ∈ o.after, (Region.binds .any e = true → e.on < i) ∧ (isDataG e = true → Region.binds .any e = true)) ∧ (i < m → ∀ j t, j < m → dstAt ops j = some t → t ∈ o.looksAt ops → ∃ e ∈ o.after, Region.binds .any e = true ∧ e.on = j) ∧
      (i = m → ∀ j, j < m → ∃ e ∈ o.after, Region.binds .any e = true ∧ e.on = j)) := by
  simp only [okGrowG, Bool.and_eq_true, decide_eq_true_eq] at h
  obtain ⟨⟨⟨⟨h1, h2⟩, h3⟩, h4⟩, h5⟩ := h
  refine ⟨h1, h2, h3, ?_, ?_⟩
  · intro i j d hi hj
    have li : i < ops.size := by
      unfold dstAt at hi
      rcases Nat.lt_or_ge i ops.size with h | h
      · exact h
      · rw [Array.getElem?_eq_none h] at hi; simp at hi
    have lj : j < ops.size := by
      unfold dstAt at hj
      rcases Nat.lt_or_ge j ops.size with h | h
      · exact h
      · rw [Array.getElem?_eq_none h] at hj; simp at hj
    have := List.all_eq_true.1 (List.all_eq_true.1 h4 i (by simpa using li)) j (by simpa using lj)
    simpa [hi, hj] using this
  · intro i o ho
    have li : i < ops.size := (Array.getElem?_eq_some_iff.1 ho).1
    have h6 := List.all_eq_true.1 h5 i (by simpa using li)
    simp only [ho, Bool.and_eq_true] at h6
    obtain ⟨⟨⟨g1, g2⟩, g3⟩, g4⟩ := h6
    refine ⟨fun hm => ?_, fun e he => ?_, fun hm j t hjm hj ht => ?_, fun hm j hj => ?_⟩
    · intro j b hg
      rcases Bool.or_eq_true_iff.1 g1 with g | g
      · rw [hg] at g
        simp only [Bool.and_eq_true] at g
        cases hd : dstAt ops j with
        | none => rw [hd] at g; simp at g
        | some t =>
          rw [hd] at g
          obtain ⟨e, he, hb⟩ := Array.any_eq_true'.1 g.2
          simp only [Bool.and_eq_true, beq_iff_eq] at hb
          exact ⟨t, rfl, by simpa using g.1, e, he, hb.1, hb.2⟩
      · have : i = m := by simpa using g
        omega
    · have := Array.all_eq_true_iff_forall_mem.1 g2 e he
      simp only [Bool.and_eq_true, Bool.or_eq_true, Bool.not_eq_true', decide_eq_true_eq] at this
      refine ⟨fun hb => ?_, fun hb => ?_⟩
      · rcases this.1 with h | h
        · rw [hb] at h; cases h
        · exact h
      · rcases this.2 with h | h
        · rw [hb] at h; cases h
        · exact h
    · have := List.all_eq_true.1 g3 j (by simpa using hjm)
      rw [hj] at this
      simp only [Bool.or_eq_true, Bool.not_eq_true'] at this
      rcases this with (h | h) | h
      · rw [List.contains_iff_mem.2 ht] at h; cases h
      · have : i = m := by simpa using h
        omega
      · obtain ⟨e, he, hb⟩ := Array.any_eq_true'.1 h
        simp only [Bool.and_eq_true, beq_iff_eq] at hb
        exact ⟨e, he, hb.1, hb.2⟩
    · subst hm
      rcases Bool.or_eq_true_iff.1 g4 with g | g
      · simp at g
      · have := List.all_eq_true.1 g j (by simpa using hj)
        obtain ⟨e, he, hb⟩ := Array.any_eq_true'.1 this
        simp only [Bool.and_eq_true, beq_iff_eq] at hb
        exact ⟨e, he, hb.1, hb.2⟩

/-- Operation c looks at what operation i left. -/
def looksToG (ops : Array Oper) (c i : Nat) : Bool := match ops[c]? with | none => false | some o => o.after.any fun e => isDataG e && e.on == i
/-- What operation i left must outlast operation k. -/
def outlastsG (ops : Array Oper) (m : Nat) (Kp : List Nat) (i k : Nat) : Bool := !comesAfter ops m i k && (Kp.contains i || (List.range m).any fun c => c != k && !comesAfter ops m k c && looksToG ops c i)

section
variable {P : Program} {ops : Array Oper} {Q : Exit → Act → World → Prop} {a : Act} {m : Nat} (Kp : List Nat) (G : List Nat → (Nat → Value) → World → Prop) (E : Nat → World → World → Prop) (R : Nat → Value → World → Prop)

theorem wpAny_growG {n : Nat} (hok : okGrowG ops m n = true) (hN : n ≤ a.tmps.size) (hGd : ∀ i o j b, i < m → ops[i]? = some o → o.guard = some (j, b) → ∀ v W, R j v W → v = .bool b) (hRE : ∀ i k v W W', i < m → k < m → i ≠ k → outlastsG ops m Kp i k = true → R i v W → E k W W' → R i v W')
    (hstep : ∀ i o, i < m → ops[i]? = some o → ∀ L vs W, i ∉ L → (∀ j ∈ L, comesAfter ops m j i = false) → G L vs W → (∀ e ∈ o.after, isDataG e = true → R e.on (vs e.on) W) → ∀ ρ, Sees ops a m vs ρ → GivesOp P o ρ W (fun v W' => E i W W' ∧ G (L ++ [i]) (upd vs i v) W' ∧ R i v W'))
    (hend : ∀ L vs W, (∀ j, j < m → j ∈ L) → G L vs W → (∀ j ∈ Kp, j < m → R j (vs j) W) → if m = ops.size then Q .normal (acts ops a vs (List.range m)) W else wpOp P ops Q m (fun a w => Q .normal a w) (acts ops a vs (List.range m)) W) :
    ∀ (fuel : Nat) (L : List Nat) (vs : Nat → Value) (W : World) (listed : Array Bool), listed.size = ops.size → (∀ j, j < ops.size → (listed.getD j true = true ↔ j ∈ L)) → L.Nodup → (∀ j ∈ L, j < m) → ((List.range ops.size).filter (fun j => !L.contains j)).length ≤ fuel → G L vs W → (∀ i ∈ L, ∀ o, ops[i]? = some o → ∀ e ∈ o.after, Region.binds .any e = true → e.on ∈ L) → (∀ j ∈ L, (j ∈ Kp ∨ ∃ c, c < m ∧ c ∉ L ∧ looksToG ops c j = true) → R j (vs j) W) →
      wpAny P .any ops Q fuel listed (acts ops a vs L) W := by
  obtain ⟨hns, hm1, hm2, hda, hspec⟩ := okGrow_specG hok
  have hperm : ∀ L : List Nat, L.Nodup → (∀ j ∈ L, j < m) → (∀ j, j < m → j ∈ L) → L.Perm (List.range m) := fun L h1 h2 h3 =>
    (List.perm_ext_iff_of_nodup h1 List.nodup_range).2 (fun j => ⟨fun h => by simpa using h2 j h, fun h => h3 j (by simpa using h)⟩)
  -- all below m are listed if none of them is ready
  have hall : ∀ (L : List Nat) (listed : Array Bool), listed.size = ops.size → (∀ j, j < ops.size → (listed.getD j true = true ↔ j ∈ L)) → (∀ j ∈ Region.ready .any ops listed, ¬ j < m) → ∀ j, j < m → j ∈ L := by
    intro L listed hsz hL hr j
    induction j using Nat.strongRecOn with
    | _ j ih =>
      intro hj
      by_cases hjL : j ∈ L
      · exact hjL
      · exfalso
        refine hr j ?_ hj
        have hjs : j < ops.size := by omega
        rw [mem_ready]
        obtain ⟨o, ho⟩ : ∃ o, ops[j]? = some o := ⟨ops[j], Array.getElem?_eq_getElem hjs⟩
        refine ⟨?_, o, ho, fun e he hb => ?_⟩
        · cases hx : listed.getD j true
          · rfl
          · exact absurd ((hL j hjs).1 hx) hjL
        · have hlt := ((hspec j o ho).2.1 e he).1 hb
          have hm := ih e.on hlt (by omega)
          have := (hL e.on (by omega)).2 hm
          have hin : e.on < listed.size := by rw [hsz]; omega
          simpa [Array.getD, hin] using this
  -- what is asked when all below m are listed
  have hfin : ∀ (L : List Nat) (vs : Nat → Value) (W : World), L.Nodup → (∀ j ∈ L, j < m) → (∀ j, j < m → j ∈ L) → G L vs W → (∀ j ∈ L, (j ∈ Kp ∨ ∃ c, c < m ∧ c ∉ L ∧ looksToG ops c j = true) → R j (vs j) W) →
      if m = ops.size then Q .normal (acts ops a vs L) W else wpOp P ops Q m (fun a w => Q .normal a w) (acts ops a vs L) W := by
    intro L vs W hnd hLm hcov hE hR
    rw [acts_perm hda (hperm L hnd hLm hcov)]
    exact hend L vs W hcov hE (fun j hk hj => hR j (hcov j hj) (Or.inl hk))
  intro fuel
  induction fuel with
  | zero =>
    intro L vs W listed hsz hL hnd hLm hlen hE hcl hR
    have hcov : ∀ j, j < ops.size → j ∈ L := fun j hj => by
      have h0 := List.eq_nil_of_length_eq_zero (Nat.le_zero.1 hlen)
      have : j ∉ (List.range ops.size).filter (fun j => !L.contains j) := by rw [h0]; simp
      simpa [hj] using this
    have hmn : m = ops.size := by
      rcases Nat.lt_or_ge m ops.size with h | h
      · have := hLm m (hcov m h); omega
      · omega
    have hf := hfin L vs W hnd hLm (fun j hj => hcov j (by omega)) hE hR
    rw [if_pos hmn] at hf
    refine ⟨?_, hf⟩
    rw [List.eq_nil_iff_forall_not_mem]
    intro j hj
    obtain ⟨h0, o, ho, _⟩ := mem_ready.1 hj
    have := (hL j (Array.getElem?_eq_some_iff.1 ho).1).2 (hcov j (Array.getElem?_eq_some_iff.1 ho).1)
    rw [this] at h0; cases h0
  | succ fuel ih =>
    intro L vs W listed hsz hL hnd hLm hlen hE hcl hR
    refine ⟨fun hr => ?_, fun i hi => ?_⟩
    · have hcov := hall L listed hsz hL (by rw [hr]; simp)
      have hf := hfin L vs W hnd hLm hcov hE hR
      by_cases hmn : m = ops.size
      · rw [if_pos hmn] at hf; exact hf
      · exfalso
        have hms : m < ops.size := by omega
        have : m ∈ Region.ready .any ops listed := by
          rw [mem_ready]
          obtain ⟨o, ho⟩ : ∃ o, ops[m]? = some o := ⟨ops[m], Array.getElem?_eq_getElem hms⟩
          refine ⟨?_, o, ho, fun e he hb => ?_⟩
          · cases hx : listed.getD m true
            · rfl
            · have := hLm m ((hL m hms).1 hx); omega
          · have hlt := ((hspec m o ho).2.1 e he).1 hb
            have := (hL e.on (by omega)).2 (hcov e.on hlt)
            have hin : e.on < listed.size := by rw [hsz]; omega
            simpa [Array.getD, hin] using this
        rw [hr] at this
        simp at this
    · obtain ⟨h0, o, ho, hdep⟩ := mem_ready.1 hi
      have his : i < ops.size := (Array.getElem?_eq_some_iff.1 ho).1
      have hiL : i ∉ L := fun h => by rw [(hL i his).2 h] at h0; cases h0
      have hdepL : ∀ e ∈ o.after, Region.binds .any e = true → e.on ∈ L := fun e he hb => by
        have h1 := hdep e he hb
        have hlt := ((hspec i o ho).2.1 e he).1 hb
        have hin : e.on < listed.size := by rw [hsz]; omega
        exact (hL e.on (by omega)).1 (by simpa [Array.getD, hin] using h1)
      have hlist : ∀ j, j < ops.size → ((listed.setIfInBounds i true).getD j true = true ↔ j ∈ L ++ [i]) := fun j hj => by
        by_cases hij : i = j
        · subst hij; simp [hsz, his]
        · rw [getD_set_ne true hij, hL j hj]; simp; intro e; exact absurd e.symm hij
      by_cases him : i < m
      · -- one of the operations that make memory
        have hnc : ∀ j ∈ L, comesAfter ops m j i = false := fun j hj => by
          cases hx : comesAfter ops m j i
          · rfl
          · exact absurd (comesAfter_mem hcl m j i hj hx) hiL
        have hg := hstep i o him ho L vs W hiL hnc hE (fun e he hb => hR _ (hdepL e he (((hspec i o ho).2.1 e he).2 hb)) (Or.inr ⟨i, him, hiL, by unfold looksToG; rw [ho]; exact Array.any_eq_true'.2 ⟨e, he, by simp [hb]⟩⟩)) _ (sees_acts hda a m vs)
        have hex : execOp (acts ops a vs L).eval o = execOp (acts ops a vs (List.range m)).eval o := by
          refine execOp_congr o (Region.noSelect_spec hns i o · · ho) (fun x hx => ?_)
          cases x with
          | tmp t =>
            have hlook : t ∈ o.looksAt ops := List.mem_append_left _ (List.mem_filterMap.2 ⟨.tmp t, by simpa using hx, rfl⟩)
            by_cases hex : ∃ j, j < m ∧ dstAt ops j = some t
            · obtain ⟨j, hjm, hj⟩ := hex
              obtain ⟨e, he, hb, rfl⟩ := (hspec i o ho).2.2.1 him j t hjm hj hlook
              have hjL := hdepL e he hb
              rw [acts_eval_in hda hjL hj, acts_eval_in hda (by simpa using hLm _ hjL) hj]
            · have h1 : ∀ j, j < m → dstAt ops j ≠ some t := fun j hjm hj => hex ⟨j, hjm, hj⟩
              rw [acts_eval_out (fun j hjL => h1 j (hLm j hjL)), acts_eval_out (fun j hjr => h1 j (by simpa using hjr))]
          | const v => rfl
          | global g => rfl
          | func f => rfl
        unfold wpOp
        simp only [ho]
        rw [if_pos (by
          unfold Region.wanted
          cases hgd : o.guard with
          | none => rfl
          | some p =>
            obtain ⟨j, b⟩ := p
            obtain ⟨t, ht, htn, e, he, heD, rfl⟩ := (hspec i o ho).1 him j b hgd
            have hjL := hdepL e he (((hspec i o ho).2.1 e he).2 heD)
            have hv := hGd i o e.on b him ho hgd _ _ (hR e.on hjL (Or.inr ⟨i, him, hiL, by unfold looksToG; rw [ho]; exact Array.any_eq_true'.2 ⟨e, he, by simp [heD]⟩⟩))
            have hev := acts_eval_in hda (a := a) (vs := vs) hjL ht
            rw [if_pos (Nat.lt_of_lt_of_le htn hN), hv] at hev
            have hlt : t < (acts ops a vs L).tmps.size := by rw [acts_size]; exact Nat.lt_of_lt_of_le htn hN
            show (yielded ops (acts ops a vs L).tmps e.on == some b) = true
            simp only [Act.eval] at hev
            unfold yielded
            have hdd : (ops[e.on]?).bind (·.dst) = some t := ht
            rw [hdd]
            simp only [Option.bind_some]
            rw [Array.getD_eq_getD_getElem?, Array.getElem?_eq_getElem hlt, Option.getD_some] at hev
            rw [Array.getElem?_eq_getElem hlt, hev]
            simp)]
        left
        refine Oper.wp_mono ?_ (hg.wp hex)
        rintro a' W' ⟨v, rfl, hEW, hE', hRv⟩
        have e1 : (acts ops a vs L).put o.dst v = acts ops a (upd vs i v) (L ++ [i]) := by
          rw [acts_snoc, acts_congr (vs := upd vs i v) (vs' := vs) (fun j hj => by unfold upd; rw [if_neg (fun e => hiL (by rw [← e]; exact hj))])]
          simp [upd, dstAt, ho]
        rw [e1]
        refine ih (L ++ [i]) (upd vs i v) W' _ (by simpa using hsz) hlist ?_ ?_ ?_ hE' ?_ ?_
        · rw [List.nodup_append]
          exact ⟨hnd, by simp, fun x hx y hy e => by simp at hy; subst hy; subst e; exact hiL hx⟩
        · intro j hj
          rcases List.mem_append.1 hj with h | h
          · exact hLm j h
          · simp at h; omega
        · have h1 : (List.range ops.size).filter (fun j => !(L ++ [i]).contains j) = ((List.range ops.size).filter (fun j => !L.contains j)).filter (fun j => j != i) := by
            rw [List.filter_filter]
            congr 1
            funext j
            simp only [List.contains_append, Bool.not_or]
            rw [Bool.and_comm]
            congr 1
            rw [Bool.eq_iff_iff]; simp [bne]
          have h2 : (((List.range ops.size).filter (fun j => !L.contains j)).filter (fun j => j != i)).length < ((List.range ops.size).filter (fun j => !L.contains j)).length := by
            rw [List.length_filter_lt_length_iff_exists]
            exact ⟨i, by simp [his, hiL], by simp⟩
          rw [h1]; omega
        · intro j hj o' ho' e he hb
          rcases List.mem_append.1 hj with h | h
          · exact List.mem_append_left _ (hcl j h o' ho' e he hb)
          · simp at h; subst h
            rw [ho] at ho'
            cases ho'
            exact List.mem_append_left _ (hdepL e he hb)
        · intro j hj hlive
          rcases List.mem_append.1 hj with h | h
          · have : upd vs i v j = vs j := by unfold upd; rw [if_neg (fun e => hiL (by rw [← e]; exact h))]
            rw [this]
            have hlive' : j ∈ Kp ∨ ∃ c, c < m ∧ c ∉ L ∧ looksToG ops c j = true := hlive.imp id (fun ⟨c, h1, h2, h3⟩ => ⟨c, h1, fun hc => h2 (List.mem_append_left _ hc), h3⟩)
            refine hRE j i _ W W' (hLm j h) him (fun e => hiL (e ▸ h)) ?_ (hR j h hlive') hEW
            unfold outlastsG
            rw [Bool.and_eq_true, Bool.not_eq_true', Bool.or_eq_true]
            refine ⟨?_, ?_⟩
            · cases hx : comesAfter ops m j i
              · rfl
              · exact absurd (comesAfter_mem hcl m j i h hx) hiL
            · rcases hlive with hk | ⟨c, h1, h2, h3⟩
              · exact Or.inl (List.contains_iff_mem.2 hk)
              · refine Or.inr (List.any_eq_true.2 ⟨c, by simpa using h1, ?_⟩)
                rw [h3, Bool.and_true, Bool.and_eq_true, bne_iff_ne, Bool.not_eq_true']
                refine ⟨fun e => by subst e; exact h2 (by simp), ?_⟩
                cases hx : comesAfter ops m i c
                · rfl
                · exact absurd (List.mem_append_left _ (comesAfter_ready hcl ho hdepL m c hx)) h2
          · simp at h; subst h; simpa [upd] using hRv
      · -- the last one
        obtain rfl : i = m := by omega
        have hcov : ∀ j, j < i → j ∈ L := fun j hj => by
          obtain ⟨e, he, hb, rfl⟩ := (hspec i o ho).2.2.2 rfl j hj
          exact hdepL e he hb
        have hf := hfin L vs W hnd hLm hcov hE hR
        rw [if_neg (by omega)] at hf
        refine wpOp_mono (fun a' W' hq => ?_) hf
        refine wpAny_done ?_ hq fuel
        rw [List.eq_nil_iff_forall_not_mem]
        intro j hj
        obtain ⟨h0', o', ho', _⟩ := mem_ready.1 hj
        have hjs := (Array.getElem?_eq_some_iff.1 ho').1
        have : j ∈ L ++ [i] := by
          by_cases hji : j < i
          · exact List.mem_append_left _ (hcov j hji)
          · have : j = i := by omega
            simp [this]
        rw [(hlist j hjs).2 this] at h0'; cases h0'

/-- A region whose operations (but for the last one) only make memory, in whatever order; what holds of the world may depend on what has been done. -/
theorem wp_region_growLG {id : Nat} {w : World} (hm : P.follows .mixedOrders = true) {n : Nat} (hok : okGrowG ops m n = true) (hN : n ≤ a.tmps.size) (hGd : ∀ i o j b, i < m → ops[i]? = some o → o.guard = some (j, b) → ∀ v W, R j v W → v = .bool b) (hG : G [] (fun _ => undef) w.drew) (hRE : ∀ i k v W W', i < m → k < m → i ≠ k → outlastsG ops m Kp i k = true → R i v W → E k W W' → R i v W')
    (hstep : ∀ i o, i < m → ops[i]? = some o → ∀ L vs W, i ∉ L → (∀ j ∈ L, comesAfter ops m j i = false) → G L vs W → (∀ e ∈ o.after, isDataG e = true → R e.on (vs e.on) W) → ∀ ρ, Sees ops a m vs ρ → GivesOp P o ρ W (fun v W' => E i W W' ∧ G (L ++ [i]) (upd vs i v) W' ∧ R i v W'))
    (hend : ∀ L vs W, (∀ j, j < m → j ∈ L) → G L vs W → (∀ j ∈ Kp, j < m → R j (vs j) W) → if m = ops.size then Q .normal (acts ops a vs (List.range m)) W else wpOp P ops Q m (fun a w => Q .normal a w) (acts ops a vs (List.range m)) W) :
    (Code.region id ops true).wp P Q a w := by
  refine wp_region_any hm ?_
  refine wpAny_growG Kp G E R hok hN hGd hRE hstep hend ops.size [] (fun _ => undef) _ _ (by simp) (fun j hj => ?_) List.nodup_nil (fun j hj => by simp at hj) ?_ hG (fun j hj => by simp at hj) (fun j hj => by simp at hj)
  · simp [hj]
  · exact Nat.le_trans (List.length_filter_le _ _) (by simp)
end
end Go.Proofs.YtfjlglefodndjaaGreatDoor
