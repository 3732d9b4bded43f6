/-
  Texts of the claim, joined: Iter, Names5, Ord3, RNodes, RExp, CExp1.
-/
import Derived.Test.YtfjlglefodndjaaGreatDoorCe12
import Derived.Test.YtfjlglefodndjaaGreatDoorCe06
import Derived.Outline
import Derived.Test.YtfjlglefodndjaaGreatDoorCe09
import Derived.Test.YtfjlglefodndjaaGreatDoorCe10
/-
  slices.Sorted(maps.Keys(m)) at this program: the shelf's contracts, as lay-iter.mjs lays them.
-/
namespace Go.Proofs
open Go.RowKit Go.Maps Go.Sort Go.Shelf

theorem Tryz.sorts41 (m : Nat) : AnyZ.SortsIn Tryz.prog Tryz.sorted41_ren Fence.wide m :=
  ⟨fun blk off cap ss W hH hblk hsz => callsIn_wide.2 (AnyM.slices_Sort_string Tryz.sort61 blk off cap ss W hH hblk hsz),
   fun p cap W => callsIn_wide.2 (AnyM.slices_Sort_string_none Tryz.sort61 p cap W)⟩

theorem Tryz.maps_Keys_42 (mb : Option Nat) (W : World) : CallsIn Fence.wide 5 Tryz.prog 70 #[.map mb] W fun e w' => e = .returned (.func (.func 92) #[] #[.pointer (some ⟨W.heap.size, 0, none⟩)]) ∧ w' = W.alloc (.cells #[.map mb] 84) :=
  AnyZ.keys_in Tryz.keys42 Fence.wide 5 trivial rfl mb W

set_option maxHeartbeats 1000000 in
theorem Tryz.slices_Sorted_keys_41_42 {H : Type} (b nn : Nat) (D0 : DataW H) (R : Value → Option (DataW H × List MemPlace)) (w : World) (hown : w.ownsMap Tryz.prog 9 R b nn D0) (hmax : Maps.size D0 ≤ maxLen) (hbytes : Maps.size D0 * 16 ≤ 140737488355328) :
    CallsIn Fence.wide 5 Tryz.prog 69 #[.func (.func 92) #[] #[.pointer (some ⟨w.heap.size, 0, none⟩)]] (w.alloc (.cells #[.map (some b)] 84)) fun e w' => ∃ (v : Value) (ss : List (List UInt8)), e = .returned v ∧ ss.Perm (strKeys D0) ∧
      w'.ownsRow (w.alloc (.cells #[.map (some b)] 84)).heap.size 9 1 v ss.length ((ss.mergeSort (fun x y => decide (x ≤ y))).map encStr) ∧ (v = .slice none 0 0 ↔ ss = []) ∧ Below (w.alloc (.cells #[.map (some b)] 84)).heap.size (w.alloc (.cells #[.map (some b)] 84)) w' := by
  have hbl := hown.lt
  have hseq : SeqGives Fence.wide 2 Tryz.prog 92 #[.pointer (some ⟨w.heap.size, 0, none⟩)] encStr (fun ss => ss.Perm (strKeys D0)) (Maps.size D0) (w.alloc (.cells #[.map (some b)] 84)) :=
    AnyZ.keys_gives (ρ := Tryz.keys42_ren) { Tryz.keys42 with } Fence.wide _ trivial rfl (by omega) w.heap.size b nn D0 _ (by simp) (by simp) (by
      obtain ⟨es, clock, hb, Ft, hs, hD⟩ := hown
      exact ⟨es, clock, (Below.heap_alloc _ _ b hbl).trans hb, Ft, hs, hD⟩)
  exact AnyZ.sorted_in Tryz.sorted41 Fence.wide 5 trivial trivial trivial trivial rfl (by omega) (Tryz.sorts41 _) (enters_of Tryz.func91 (by kernel_rfl) rfl) 92 #[.pointer (some ⟨w.heap.size, 0, none⟩)] trivial (enters_of Tryz.func92 (by kernel_rfl) rfl) _ _ hmax hbytes _ hseq

end Go.Proofs

namespace Go.Proofs.YtfjlglefodndjaaGreatDoor
open Go.RowKit Go.Maps Go.Sort Go.Shelf

theorem strs_of_row {w : World} {base : Nat} {l : List ByteArray} {v : Value} {n : Nat} (h : w.ownsRow base 9 1 v n ((l.map (·.data.toList)).map encStr)) (hn : n = l.length) : ∃ a c, v = .slice a l.length c ∧ IsStrs w l a l.length c := by
  subst hn
  have e : (l.map (·.data.toList)).map encStr = l.flatMap strCells := by
    clear h
    induction l with
    | nil => rfl
    | cons x r ih => simp only [List.map_cons, ih, List.flatMap_cons, strCells]; rfl
  rw [e] at h
  obtain ⟨a, c, h1, _, h2⟩ := strs_of_owns h [] (by simp)
  exact ⟨a, c, h1, h2⟩

theorem size_owned {w : World} {b n : Nat} {D : DataW Unit} {R : Value → Option (DataW Unit × List MemPlace)} (h : w.ownsMap Tryz.prog 9 R b n D) : Maps.size D ≤ n := by
  obtain ⟨es, clock, _, _, hs, rfl⟩ := h
  simp only [Maps.size]
  rw [length_sorted]
  simpa using hs

def PutQF (l : List ByteArray) (w : World) (e : Ending) (w' : World) : Prop := ∃ (a : Option Addr) (c : Nat), e = .returned (.slice a l.length c) ∧ IsStrs w' l a l.length c ∧ Ext w w' ∧ ∀ b off, a = some ⟨b, off, none⟩ → w.heap.size ≤ b
set_option maxRecDepth 100000 in
set_option maxHeartbeats 4000000 in
/-- Names hands back the names in ascending order, each once, in a row of its own. -/
theorem synNamesF_calls (e : Ex) (v : Value) (w : World) (hs : e.size ≤ 900000) (hf : e.fits) (he : IsEx w e v) : Calls Tryz.prog 40 #[v] w (PutQF (refNames (namesE e)) w) := by
  obtain ⟨aw, nw, cw, aa, na, ca, rfl, -, -, -, -, -⟩ := he.parts
  have HX := Lib.hid (((Ext.refl w).alloc (.cells #[.int .i64 e.op, .string e.name, .slice aw nw cw, .int .i64 e.lo, .int .i64 e.hi, .slice aa na ca] 29)).alloc (.map #[] 0))
  have HSET := Lib.hid (show SetAt ((w.alloc (.cells #[.int .i64 e.op, .string e.name, .slice aw nw cw, .int .i64 e.lo, .int .i64 e.hi, .slice aa na ca] 29)).alloc (.map #[] 0)) (w.heap.size + 1) 0 [] from
    ⟨.map [], by have := World.ownsMap_made (H := Unit) (w.alloc (.cells #[.int .i64 e.op, .string e.name, .slice aw nw cw, .int .i64 e.lo, .int .i64 e.hi, .slice aa na ca] 29)) Tryz.prog 9 unitElem; simpa using this, setIs_nil⟩)
  have HE := Lib.hid (show IsEx (mask ((w.alloc (.cells #[.int .i64 e.op, .string e.name, .slice aw nw cw, .int .i64 e.lo, .int .i64 e.hi, .slice aa na ca] 29)).alloc (.map #[] 0)) [w.heap.size + 1]) e (exV e.op e.name aw nw cw e.lo e.hi aa na ca) from
    he.mono (fun p q hp => by
      have hb := block_lt hp
      rw [mask_cell, if_neg (by simp; omega)]
      exact HX.out.cell hp))
  have HC := Lib.hid (collect_calls 900000 (by omega) e _ _ _ _ _ hs hf HE.out HSET.out (by omega))
  have hmm := @run_makeMap Tryz.prog
  rw [List.nil_append] at HC
  clear he HSET HE
  unfold exV at *
  refine (callsIn_wide (n := 6)).1 ?_
  have hfK : Fence.wide.fn 70 := trivial
  have hfS : Fence.wide.fn 69 := trivial
  have hfC : Fence.wide.fn 68 := trivial
  refine callsIn_of_wp Tryz.func40 rfl trivial ?_ rfl
  simp only [Tryz.ntmps40, List.size_toArray, List.length_cons, List.length_nil, Nat.reduceAdd, Nat.reduceSub, Array.replicate_succ, Array.replicate_zero, List.push_toArray, List.append_toArray, List.nil_append, List.cons_append]
  gi_wp2_with (first
    | (gi_at_call 68; refine (callsIn_wide.2 HC.out).mono ?_; rintro r w1 ⟨rfl, hset1, hc1⟩)
    | (gi_at_call 70; refine (Tryz.maps_Keys_42 _ _).mono ?_; rintro r w' ⟨rfl, rfl⟩))
  obtain ⟨D, hown, hsi⟩ := hset1
  have hsize := size_owned hown
  have hwx := hc1.ext HX.out (by simp)
  have HX1 := Lib.hid hwx
  have HSI := Lib.hid hsi
  clear hc1 hsi hwx
  refine (Tryz.slices_Sorted_keys_41_42 (w.heap.size + 1) _ D _ w1 hown (by unfold maxLen; omega) (by omega)).mono ?_
  rintro r w2 ⟨v, ss, rfl, hS, hrow, -, hb⟩
  have hsame := names_same HSI.out hS
  have hlen : ss.length = (refNames (namesE e)).length := by
    have := congrArg List.length hsame
    simpa using this
  rw [hsame] at hrow
  have hfr := hrow.lt
  obtain ⟨ra, rc, rfl, hst⟩ := strs_of_row hrow hlen
  have HFR := Lib.hid (show ∀ b off, ra = some ⟨b, off, none⟩ → w.heap.size ≤ b by
    intro b off e
    subst e
    have h1 := (hfr b rfl).1
    have h2 := HX1.out.size
    simp at h1
    omega)
  have HST := Lib.hid hst
  have HX2 := Lib.hid ((HX1.out.alloc (.cells #[.map (some (w.heap.size + 1))] 84)).trans hb)
  clear hrow hst hb hS hsame hlen hown hsize hfr
  gi_wp2_with (fail)
  go_ret
  exact ⟨ra, rc, rfl, HST.out, HX2.out, HFR.out⟩
theorem synNames_calls (e : Ex) (v : Value) (w : World) (hs : e.size ≤ 900000) (hf : e.fits) (he : IsEx w e v) : Calls Tryz.prog 40 #[v] w (PutQ (refNames (namesE e)) w) :=
  (synNamesF_calls e v w hs hf he).mono fun _ _ ⟨a, c, h1, h2, h3, _⟩ => ⟨a, c, h1, h2, h3⟩
end Go.Proofs.YtfjlglefodndjaaGreatDoor

namespace Go.Proofs.YtfjlglefodndjaaGreatDoor
open Go.RowKit Go.Maps

def Cl.dfn (c : Cl) : Dfn := ⟨c.kind == 1, c.name, refNames (namesE c.cond)⟩
/-- Integers in a slice. -/
def IsInts (w : World) (l : List Int) (a : Option Addr) (n c : Nat) : Prop :=
  n = l.length ∧ n ≤ c ∧ OkAddr a c ∧ ∀ i (h : i < l.length), ∃ b off, a = some ⟨b, off, none⟩ ∧ w.cell? ⟨b, off + i, none⟩ = some (.int .i64 l[i])
theorem IsInts.mono {w w' : World} {l : List Int} {a : Option Addr} {n c : Nat} (h : IsInts w l a n c) (he : Sub w w') : IsInts w' l a n c :=
  ⟨h.1, h.2.1, h.2.2.1, fun i hi => by obtain ⟨b, off, h1, h2⟩ := h.2.2.2 i hi; exact ⟨b, off, h1, he _ _ h2⟩⟩
def ints (o : List Nat) : List Int := o.map fun (i : Nat) => (i : Int)
/-- An order of the definitions, or ErrCycle and the reason: nothing more can be taken. -/
def OrdQ (l : List Dfn) (w : World) (e : Ending) (w' : World) : Prop := Ext w w' ∧
  ((∃ o a c, Topo l o ∧ e = .returned (.tuple #[.slice a o.length c, .int .i64 0]) ∧ IsInts w' (ints o) a o.length c) ∨ (∃ o, OInv l o [] ∧ o.length < countOf l ∧ e = .returned (.tuple #[.slice none 0 0, .int .i64 10])))
theorem first_take {l : List Dfn} {k : Nat} (hk : k < l.length) (s : ByteArray) : firstAt (l.take (k + 1)) s = match firstAt (l.take k) s with | some d => some d | none => if l[k].is = true ∧ l[k].name = s then some k else none := by
  unfold firstAt
  rw [List.take_succ_eq_append_getElem hk, List.findIdx?_append]
  cases h : (l.take k).findIdx? fun d => d.is && decide (d.name = s) with
  | some d => simp
  | none =>
    simp only [List.findIdx?_cons, List.findIdx?_nil, List.length_take]
    by_cases hc : l[k].is = true ∧ l[k].name = s
    · simp [hc]; omega
    · rw [if_neg hc]
      have : (l[k].is && decide (l[k].name = s)) = false := by
        simp only [Bool.and_eq_false_iff, decide_eq_false_iff_not]
        by_cases h1 : l[k].is = true
        · exact Or.inr fun h2 => hc ⟨h1, h2⟩
        · exact Or.inl (by simpa using h1)
      simp [this]
theorem uMapSI : Tryz.prog.underlying 65 = some (.map 9 3) := by kernel_rfl
theorem uMapSIs : Tryz.prog.underlying 83 = some (.map 9 30) := by kernel_rfl
theorem uMapIM : Tryz.prog.underlying 82 = some (.map 3 84) := by kernel_rfl
theorem uInt3 : Tryz.prog.underlying 3 = some (.int .i64) := by kernel_rfl
theorem keyedInt : Keyed Tryz.prog 3 := int_keyed uInt3
theorem zeroInt (w : World) : (zeroValue 3).run Tryz.prog w = .ok (.int .i64 0) w := by kernel_rfl
theorem zeroInts (w : World) : (zeroValue 30).run Tryz.prog w = .ok (.slice none 0 0) w := by kernel_rfl
theorem zeroSet (w : World) : (zeroValue 84).run Tryz.prog w = .ok (.map none) w := by kernel_rfl
theorem keyStr {s : ByteArray} (h : s.size ≤ 1000000000000000) : keyOf Tryz.prog 9 (.string s) = some (.string s.data.toList) := Go.WideMaps.keyOf_string_mk uStr2 (by unfold maxLen; omega)
theorem keyInt {i : Nat} (h : i ≤ 1000000000000000) : keyOf Tryz.prog 3 (.int .i64 i) = some (.int .i64 i) := keyOf_int_mk uInt3 (by simp [Lit.wf, IntKind.min, IntKind.max, IntKind.bits, IntKind.signed]; omega)
theorem firstF_none {l : List Dfn} {s : ByteArray} (h : firstAt l s = none) : strF (firstF l) (.string s.data.toList) = none := by rw [strF_at, firstF, h]; rfl
theorem firstF_some {l : List Dfn} {s : ByteArray} {d : Nat} (h : firstAt l s = some d) : strF (firstF l) (.string s.data.toList) = some (.int .i64 d) := by rw [strF_at, firstF, h]; rfl
theorem firstF_step {l : List Dfn} {k : Nat} (hk : k < l.length) (hd : l[k].is = true) (hf : firstAt (l.take k) l[k].name = none) (x : Lit) : setF (strF (firstF (l.take k))) (.string l[k].name.data.toList) (some (.int .i64 k)) x = strF (firstF (l.take (k + 1))) x := by
  rw [setF_str]
  cases x <;> try rfl
  rename_i bs
  simp only [strF]
  by_cases e : (⟨bs.toArray⟩ : ByteArray) = l[k].name
  · rw [e, upS_same, firstF, first_take hk, hf]
    simp [hd]
  · rw [upS_other _ _ e, firstF, firstF, first_take hk]
    cases firstAt (l.take k) ⟨bs.toArray⟩ with
    | some d => rfl
    | none =>
      have : ¬ (l[k].is = true ∧ l[k].name = ⟨bs.toArray⟩) := fun h => e h.2.symm
      rw [if_neg this]
theorem firstF_skip {l : List Dfn} {k : Nat} (hk : k < l.length) (hd : l[k].is = false ∨ firstAt (l.take k) l[k].name ≠ none) (x : Lit) : strF (firstF (l.take k)) x = strF (firstF (l.take (k + 1))) x := by
  cases x <;> try rfl
  rename_i bs
  simp only [strF, firstF]
  rw [first_take hk]
  cases h : firstAt (l.take k) ⟨bs.toArray⟩ with
  | some d => rfl
  | none =>
    have : ¬ (l[k].is = true ∧ l[k].name = ⟨bs.toArray⟩) := by
      rintro ⟨h1, h2⟩
      rcases hd with h3 | h3
      · rw [h3] at h1; cases h1
      · rw [h2] at h3; exact h3 h
    rw [if_neg this]
end Go.Proofs.YtfjlglefodndjaaGreatDoor

namespace Go.Proofs.YtfjlglefodndjaaGreatDoor
open Go.RowKit

set_option maxRecDepth 100000 in
set_option maxHeartbeats 4000000 in
theorem rnodesErr_calls (s : List Attr) (l : List Cla) (hf : ∀ x ∈ s, x.fits) (hsl : s.length ≤ 1000000000000000) (a : Option Addr) (n c : Nat) (hn : n ≤ 1000000000000000) (m : Nat) : ∀ (e : Ex) (ev sv : Value) (w : World), e.size ≤ m → m ≤ 1000000000000000 → e.few → IsSchema w s sv → IsClas w l a n c → IsEx w e ev →
    Calls Tryz.prog 28 #[sv, .slice a n c, ev] w (GivesE (.int .i64 (nodesErr s l e)) w) := by
  induction m with
  | zero => intro e ev sv w h; have := size_pos e; omega
  | succ m ih =>
    intro e ev sv w hm hMM hfew hs hl he
    obtain ⟨sa, sn, sc, rfl, hsn⟩ := hs.slice
    have HN0 := Lib.hid (rnodeErr_calls s (.agg #[.slice sa sn sc]) l a n c e ev)
    obtain ⟨hfw, hfa⟩ := few_parts hfew
    obtain ⟨aw, nw, cw, aa, na, ca, rfl, hw, hna, hca, ha, hx⟩ := he.parts
    have hS : e.size = 1 + sizes e.args := e.size_eq
    have hla := length_le_sizes e.args
    have hna2 : na ≤ 1000000000000000 := by omega
    have hsz : sizes e.args ≤ m := by omega
    have HE := Lib.hid he
    have HS := Lib.hid hs
    have HL := Lib.hid hl
    have HX := Lib.hid hx
    have HNA := Lib.hid hna
    have HF := Lib.hid hf
    have HFW := Lib.hid hfw
    have HFA := Lib.hid hfa
    have HEQ := Lib.hid (nodesErr_eq s l e)
    have IH := Lib.hid ih
    clear hs hl he hx hna hw hca ha hS hla hsn hfw hfa hfew ih hf hm
    unfold exV at *
    obtain ⟨wa, hwa⟩ : ∃ wa, wa = (w.alloc (.cells #[.slice sa sn sc] 24)).alloc (.cells #[.int .i64 e.op, .string e.name, .slice aw nw cw, .int .i64 e.lo, .int .i64 e.hi, .slice aa na ca] 29) := ⟨_, rfl⟩
    have hxa : Ext w wa := by rw [hwa]; exact ((Ext.refl _).alloc _).alloc _
    have hb0 : wa.heap[w.heap.size]? = some (.cells #[.slice sa sn sc] 24 (0, 0)) := by rw [hwa]; exact blk_alloc (alloc_new w _)
    have hb1 : wa.heap[w.heap.size + 1]? = some (.cells #[.int .i64 e.op, .string e.name, .slice aw nw cw, .int .i64 e.lo, .int .i64 e.hi, .slice aa na ca] 29 (0, 0)) := by rw [hwa]; exact alloc_atR (by simp)
    have HXA := Lib.hid hxa
    have HB0 := Lib.hid hb0
    have HB1 := Lib.hid hb1
    clear hxa hb0 hb1
    go_enter Tryz.func28, Tryz.ntmps28
    go_wp2_with fail
    rw [← hwa]
    refine (HN0.out wa (HS.out.ext HXA.out) HF.out hsl (HL.out.ext HXA.out) hn (HE.out.ext HXA.out) HFW.out).mono ?_
    rintro r w1 ⟨rfl, hx1⟩
    have HX1 := Lib.hid (HXA.out.trans hx1)
    have HB01 := Lib.hid (hx1.blk HB0.out)
    have HB11 := Lib.hid (hx1.blk HB1.out)
    clear hx1 hwa
    obtain ⟨E, hE⟩ : ∃ E, E = nodeErr s l e.op e.name e.words e.lo e.hi := ⟨_, rfl⟩
    rw [← hE]
    rw [← hE] at HEQ
    clear hE
    by_cases hz : E = 0
    · have tz : (E != 0) = false := by simp [hz]
      have HQ := Lib.hid (show nodesErr s l e = nodesErrL s l e.args by rw [HEQ.out, if_neg (by simp [hz])])
      clear hz
      go_wp2_with fail
      go_loopw [8] (fun t wr => ∃ k : Nat, t = .int .i64 k ∧ k ≤ na ∧ (∀ j (h : j < e.args.length), j < k → nodesErr s l e.args[j] = 0) ∧ Ext w1 wr) (fun t _ => na - (intOf t).toNat)
      case atStart => exact ⟨0, rfl, by omega, fun j _ h => by omega, Ext.refl _⟩
      case round =>
        obtain ⟨k, rfl, hk, hno, hxr⟩ := hrel
        have HNO := Lib.hid hno
        have HXR := Lib.hid (HX1.out.trans hxr)
        have HXR1 := Lib.hid hxr
        obtain ⟨d0, df⟩ := blk1 (hxr.blk HB01.out)
        obtain ⟨f0, f1, f2, f3, f4, f5, ff⟩ := blk6 (hxr.blk HB11.out)
        clear hno hxr
        by_cases hkn : k < na
        · have hka : k < e.args.length := by have := HNA.out; omega
          have t1 : decide ((k : Int) < (na : Int)) = true := decide_eq_true (by omega)
          obtain ⟨b, off, rfl, aw1, nw1, cw1, aa1, na1, ca1, h0, h1, h2, h3, h4, h5, h6⟩ := ExsD.at e.args _ (ExsD.ext HXR.out e.args _ HX.out) k hka
          have H6 := Lib.hid h6
          have hs1 := sizes_take_succ e.args k hka
          have hs2 := sizes_take_le e.args (k + 1)
          have hk1 : e.args[k].size ≤ m := by omega
          have ti0 : (0 : Int) ≤ (k : Int) := by omega
          have ti1 : (k : Int) < (na : Int) := by omega
          clear h6 hs1 hs2
          go_wp2_with fail
          go_still_tail 7, (by kernel_rfl)
          change wpList _ _ _ _ _ wr.drew
          have hx2 : Ext wr wr.drew := (Ext.refl wr).drew
          generalize wr.drew = w2 at hx2 ⊢
          have HX2 := Lib.hid (HXR.out.trans hx2)
          have HX12 := Lib.hid (HXR1.out.trans hx2)
          have H62 := Lib.hid (H6.out.ext hx2)
          clear hx2 d0 df f0 f1 f2 f3 f4 f5 ff h0 h1 h2 h3 h4 h5
          go_wp2_with fail
          refine (IH.out e.args[k] _ _ w2 hk1 (by omega) (fewAll_at _ HFA.out k hka) (HS.out.ext HX2.out) (HL.out.ext HX2.out) H62.out).mono ?_
          rintro r w3 ⟨rfl, hx3⟩
          have HX3 := Lib.hid (HX2.out.trans hx3)
          have HX13 := Lib.hid (HX12.out.trans hx3)
          clear hx3
          by_cases hz : nodesErr s l e.args[k] = 0
          · have tz : (nodesErr s l e.args[k] != 0) = false := by simp [hz]
            have HZ := Lib.hid hz
            clear hz
            go_wp2_with fail
            go_roundw
            case rel =>
              refine ⟨k + 1, by go_num, by omega, fun j hj hjk => ?_, HX13.out⟩
              by_cases e' : j = k
              · subst e'; exact HZ.out
              · exact HNO.out j hj (by omega)
            case measure => simp [intOf]; omega
          · have tz : (nodesErr s l e.args[k] != 0) = true := by simp [hz]
            have HR := Lib.hid (show nodesErr s l e = nodesErr s l e.args[k] by rw [HQ.out]; exact nodesErrL_hit e.args k hka hz fun j hj => HNO.out j (by omega) hj)
            clear hz
            go_wp2_with fail
            go_ret
            exact givesE_of (by rw [HR.out]) HX3.out
        · have t1 : decide ((k : Int) < (na : Int)) = false := decide_eq_false (by omega)
          have HR := Lib.hid (show nodesErr s l e = 0 by rw [HQ.out, nodesErrL_zero]; intro j hj; exact HNO.out j hj (by have := HNA.out; omega))
          go_wp2_with fail
          go_ret
          exact givesE_of (by rw [HR.out]) HXR.out
    · have tz : (E != 0) = true := by simp [hz]
      have HQ := Lib.hid (show nodesErr s l e = E by rw [HEQ.out, if_pos hz])
      clear hz
      go_wp2_with fail
      go_ret
      exact givesE_of (by rw [HQ.out]) HX1.out
end Go.Proofs.YtfjlglefodndjaaGreatDoor

namespace Go.Proofs.YtfjlglefodndjaaGreatDoor
open Go.RowKit

theorem defAt_ltR {l : List Cla} {s : ByteArray} {d : Nat} (h : defAt l s = some d) : d < l.length := by
  unfold defAt at h
  rw [List.findIdx?_eq_some_iff_getElem] at h
  exact h.1
def dOf (l : List Cla) (f : Nat) : ByteArray → Option Nat := fun s => (defAt l s).map fun d => expF l f (l.getD d cla0).cond
theorem expF_succ (l : List Cla) (f : Nat) (e : Ex) : expF l (f + 1) e = expE (dOf l f) e := rfl
/-- What a loop over the arguments keeps. -/
def ExpL (D : ByteArray → Option Nat) (base na : Nat) (args : List Ex) (w1 : World) (t i : Value) (wr : World) : Prop := ∃ k : Nat, i = .int .i64 k ∧ k ≤ na ∧ t = .int .i64 ((base + expL D (args.take k) : Nat) : Int) ∧ base + expL D (args.take k) ≤ 4001 ∧ Ext w1 wr
theorem exp_end {D : ByteArray → Option Nat} {base k : Nat} {args : List Ex} (h : 2000 < base + expL D (args.take k) ∨ args.length ≤ k) : min (base + expL D (args.take k)) 2001 = min (base + expL D args) 2001 := by
  rcases h with h | h
  · have := expL_take_le D args k
    omega
  · rw [List.take_of_length_le h]
set_option maxRecDepth 100000 in
set_option maxHeartbeats 8000000 in
theorem rexp_calls (l : List Cla) (a : Option Addr) (n c : Nat) (hn : n ≤ 1000000) (hsz : ∀ x ∈ l, x.cond.size ≤ 1000000000000000) : ∀ (f m : Nat) (e : Ex) (ev : Value) (w : World) (d : Nat), f + d = n + 1 → e.size ≤ m → m ≤ 1000000000000000 → IsClas w l a n c → IsEx w e ev →
    Calls Tryz.prog 67 #[.slice a n c, ev, .int .i64 d] w (GivesE (.int .i64 (expF l f e)) w) := by
  intro f
  induction f with
  | zero =>
    intro m e ev w d hd hm hMM hl he
    obtain ⟨aw, nw, cw, aa, na, ca, rfl, hw, hna, hca, ha, hx⟩ := he.parts
    have t0 : decide (n < d) = true := decide_eq_true (by omega)
    have HR := Lib.hid (show expF l 0 e = 2001 from rfl)
    clear hw hna hca ha hx he hl
    unfold exV
    go_enter Tryz.func67, Tryz.ntmps67
    go_wp2_with fail
    go_ret
    exact givesE_of (by rw [HR.out]; rfl) ((Ext.refl w).alloc _)
  | succ f ihf =>
    intro m
    induction m with
    | zero => intro e ev w d _ h; have := size_pos e; omega
    | succ m ihm =>
      intro e ev w d hd hm hMM hl he
      obtain ⟨aw, nw, cw, aa, na, ca, rfl, hw, hna, hca, ha, hx⟩ := he.parts
      have hS : e.size = 1 + sizes e.args := e.size_eq
      have hla := length_le_sizes e.args
      have hna2 : na ≤ 1000000000000000 := by omega
      have hszm : sizes e.args ≤ m := by omega
      have hdn : d ≤ n := by omega
      have t0 : decide (n < d) = false := decide_eq_false (by omega)
      have HL := Lib.hid hl
      have HLN := Lib.hid hl.len
      have HX := Lib.hid hx
      have HNA := Lib.hid hna
      have HSZ := Lib.hid hsz
      have HEQ := Lib.hid (show expF l (f + 1) e = min ((if e.op = 3 then (dOf l f e.name).getD 1 else 1) + expL (dOf l f) e.args) 2001 by rw [expF_succ, expE_eq])
      have IHM := Lib.hid ihm
      have IHF := Lib.hid ihf
      have HD := Lib.hid hd
      clear hw hna hca ha hx he hl hS hla ihm ihf hm hd
      unfold exV
      obtain ⟨wa, hwa⟩ : ∃ wa, wa = w.alloc (.cells #[.int .i64 e.op, .string e.name, .slice aw nw cw, .int .i64 e.lo, .int .i64 e.hi, .slice aa na ca] 29) := ⟨_, rfl⟩
      have hxa : Ext w wa := by rw [hwa]; exact (Ext.refl _).alloc _
      have hb1 : wa.heap[w.heap.size]? = some (.cells #[.int .i64 e.op, .string e.name, .slice aw nw cw, .int .i64 e.lo, .int .i64 e.hi, .slice aa na ca] 29 (0, 0)) := by rw [hwa]; exact alloc_new w _
      have HXA := Lib.hid hxa
      have HB1 := Lib.hid hb1
      obtain ⟨f0, f1, f2, f3, f4, f5, ff⟩ := blk6 hb1
      have hltw := blk_lt hb1
      clear hxa hb1
      by_cases hdef : e.op = 3 ∧ (defAt l e.name).isSome = true
      · obtain ⟨h3, hds⟩ := hdef
        obtain ⟨dd, hdd⟩ := Option.isSome_iff_exists.1 hds
        have t3 : (e.op == 3) = true := by simp [h3]
        obtain ⟨base, hbase⟩ : ∃ base, base = expF l f (l.getD dd cla0).cond := ⟨_, rfl⟩
        have hbl : base ≤ 2001 := by rw [hbase]; exact expF_le _ _ _
        have HQ := Lib.hid (show expF l (f + 1) e = min (base + expL (dOf l f) e.args) 2001 by rw [HEQ.out, if_pos h3, hbase]; simp [dOf, hdd])
        have hddl := defAt_ltR hdd
        have hddn : dd < n := by have := HLN.out; omega
        have HDC := Lib.hid (rDef_calls l a n c e.name wa (HL.out.ext HXA.out) (by omega))
        rw [hdd, optV_some] at HDC
        obtain ⟨cb, coff, v, rfl, hcla, hrow⟩ := (HL.out.ext HXA.out).at hddl
        obtain ⟨c0, c1, c2, c3, c4, c5, c6, c7, c8, c9⟩ := hrow.ten
        have HCX := Lib.hid hcla.2.2.1
        have hgd : l.getD dd cla0 = l[dd] := by simp [hddl]
        rw [hgd] at hbase
        have HBS := Lib.hid hbase
        clear HEQ hds hdd h3 hcla hrow hbase hgd c0 c1 c8 c9
        go_enter Tryz.func67, Tryz.ntmps67
        go_wp2_with fail
        rw [← hwa]
        clear hwa
        refine HDC.out.mono ?_
        rintro r w1 ⟨rfl, rfl⟩
        go_wp2_with fail
        have hd1 : f + (d + 1) = n + 1 := by have := HD.out; omega
        have hcs := HSZ.out l[dd] (List.getElem_mem hddl)
        refine (IHF.out 1000000000000000 l[dd].cond _ _ (d + 1) hd1 hcs (by omega) (HL.out.ext HXA.out) HCX.out).mono ?_
        rw [← HBS.out]
        rintro r w2 ⟨rfl, hx2⟩
        have HX2 := Lib.hid (HXA.out.trans hx2)
        have HB2 := Lib.hid (hx2.blk HB1.out)
        clear hx2 f0 f1 f2 f3 f4 f5 ff c2 c3 c4 c5 c6 c7
        go_wp2_with fail
        go_loopw [9, 10] (ExpL (dOf l f) base na e.args w2) (fun _ i _ => na - (intOf i).toNat)
        case atStart => exact ⟨0, rfl, by omega, by simp [expL], by simp [expL]; omega, Ext.refl _⟩
        case round =>
          obtain ⟨k, rfl, hk, rfl, hle, hxr⟩ := hrel
          have HXR := Lib.hid hxr
          obtain ⟨f0, f1, f2, f3, f4, f5, ff⟩ := blk6 (hxr.blk HB2.out)
          clear hxr
          obtain ⟨N, hN⟩ : ∃ N, N = base + expL (dOf l f) (e.args.take k) := ⟨_, rfl⟩
          rw [← hN] at hle ⊢
          have HNN := Lib.hid hN
          clear hN
          by_cases hgo : k < na ∧ N ≤ 2000
          · obtain ⟨hkn, hN2⟩ := hgo
            have hka : k < e.args.length := by have := HNA.out; omega
            have t1 : decide ((k : Int) < (na : Int)) = true := decide_eq_true (by omega)
            have t2 : decide ((N : Int) ≤ 2000) = true := decide_eq_true (by omega)
            obtain ⟨b, off, rfl, aw1, nw1, cw1, aa1, na1, ca1, h0, h1, h2, h3, h4, h5, h6⟩ := ExsD.at e.args _ (ExsD.ext (HX2.out.trans HXR.out) e.args _ HX.out) k hka
            have H6 := Lib.hid h6
            have hs1 := sizes_take_succ e.args k hka
            have hs2 := sizes_take_le e.args (k + 1)
            have hk1 : e.args[k].size ≤ m := by omega
            have HTS := Lib.hid (expL_take_succ (dOf l f) e.args k hka)
            have hel := expE_le (dOf l f) e.args[k]
            clear h6 hs1 hs2
            go_wp2_with fail
            refine (IHM.out e.args[k] _ _ d HD.out hk1 (by omega) (HL.out.ext (HX2.out.trans HXR.out)) H6.out).mono ?_
            rw [expF_succ]
            rintro r w3 ⟨rfl, hx3⟩
            have HX3 := Lib.hid (HXR.out.trans hx3)
            clear hx3 h0 h1 h2 h3 h4 h5 f0 f1 f2 f3 f4 f5 ff
            go_wp2_with fail
            go_roundw
            case rel => exact ⟨k + 1, by go_num, by omega, by rw [HTS.out, ← Nat.add_assoc, ← HNN.out]; go_num, by rw [HTS.out, ← Nat.add_assoc, ← HNN.out]; omega, HX3.out⟩
            case measure => simp [intOf]; omega
          · have HR := Lib.hid (show (min N 2001 : Nat) = expF l (f + 1) e by
              rw [HQ.out, HNN.out]
              exact exp_end (by
                rw [← HNN.out]
                by_cases h : k < na
                · exact Or.inl (by have := fun h2 => hgo ⟨h, h2⟩; omega)
                · exact Or.inr (by have := HNA.out; omega)))
            have hX := HX2.out.trans HXR.out
            have HXE := Lib.hid hX
            clear hX
            by_cases hkn : k < na
            · have t1 : decide ((k : Int) < (na : Int)) = true := decide_eq_true (by omega)
              have t2 : decide ((N : Int) ≤ 2000) = false := decide_eq_false (by omega)
              clear hgo
              go_wp2_with fail
              all_goals (go_ret; exact givesE_of (by rw [← HR.out]; omega) HXE.out)
            · have t1 : decide ((k : Int) < (na : Int)) = false := decide_eq_false (by omega)
              clear hgo
              go_wp2_with fail
              all_goals (go_ret; exact givesE_of (by rw [← HR.out]; omega) HXE.out)
      · have HQ := Lib.hid (show expF l (f + 1) e = min (1 + expL (dOf l f) e.args) 2001 by
          rw [HEQ.out]
          by_cases h3 : e.op = 3
          · rw [if_pos h3]
            have : defAt l e.name = none := by
              cases hd : defAt l e.name with
              | none => rfl
              | some q => exact absurd ⟨h3, by rw [hd]; rfl⟩ hdef
            simp [dOf, this]
          · rw [if_neg h3])
        clear HEQ
        by_cases h3 : e.op = 3
        case' pos =>
          have hdn0 : defAt l e.name = none := by
            cases hd : defAt l e.name with
            | none => rfl
            | some q => exact absurd ⟨h3, by rw [hd]; rfl⟩ hdef
          have t3 : (e.op == 3) = true := by simp [h3]
          have HDC := Lib.hid (rDef_calls l a n c e.name wa (HL.out.ext HXA.out) (by omega))
          rw [hdn0, optV_none] at HDC
          clear hdn0 h3 hdef
          go_enter Tryz.func67, Tryz.ntmps67
          go_wp2_with fail
          rw [← hwa]
          clear hwa
          refine HDC.out.mono ?_
          rintro r w1 ⟨rfl, rfl⟩
          clear HDC
          go_wp2_with fail
        case' neg =>
          have t3 : (e.op == 3) = false := by simp [h3]
          clear h3 hdef
          go_enter Tryz.func67, Tryz.ntmps67
          go_wp2_with fail
          rw [← hwa]
          clear hwa
        all_goals
          clear f0 f1 f2 f3 f4 f5 ff
          go_loopw [11, 12] (ExpL (dOf l f) 1 na e.args wa) (fun _ i _ => na - (intOf i).toNat)
          case atStart => exact ⟨0, rfl, by omega, by simp [expL], by simp [expL], Ext.refl _⟩
          case round =>
            obtain ⟨k, rfl, hk, rfl, hle, hxr⟩ := hrel
            have HXR := Lib.hid hxr
            obtain ⟨f0, f1, f2, f3, f4, f5, ff⟩ := blk6 (hxr.blk HB1.out)
            clear hxr
            obtain ⟨N, hN⟩ : ∃ N, N = 1 + expL (dOf l f) (e.args.take k) := ⟨_, rfl⟩
            rw [← hN] at hle ⊢
            have HNN := Lib.hid hN
            clear hN
            by_cases hgo : k < na ∧ N ≤ 2000
            · obtain ⟨hkn, hN2⟩ := hgo
              have hka : k < e.args.length := by have := HNA.out; omega
              have t1 : decide ((k : Int) < (na : Int)) = true := decide_eq_true (by omega)
              have t2 : decide ((N : Int) ≤ 2000) = true := decide_eq_true (by omega)
              obtain ⟨b, off, rfl, aw1, nw1, cw1, aa1, na1, ca1, h0, h1, h2, h3, h4, h5, h6⟩ := ExsD.at e.args _ (ExsD.ext (HXA.out.trans HXR.out) e.args _ HX.out) k hka
              have H6 := Lib.hid h6
              have hs1 := sizes_take_succ e.args k hka
              have hs2 := sizes_take_le e.args (k + 1)
              have hk1 : e.args[k].size ≤ m := by omega
              have HTS := Lib.hid (expL_take_succ (dOf l f) e.args k hka)
              have hel := expE_le (dOf l f) e.args[k]
              clear h6 hs1 hs2
              go_wp2_with fail
              refine (IHM.out e.args[k] _ _ d HD.out hk1 (by omega) (HL.out.ext (HXA.out.trans HXR.out)) H6.out).mono ?_
              rw [expF_succ]
              rintro r w3 ⟨rfl, hx3⟩
              have HX3 := Lib.hid (HXR.out.trans hx3)
              clear hx3 h0 h1 h2 h3 h4 h5 f0 f1 f2 f3 f4 f5 ff
              go_wp2_with fail
              go_roundw
              case rel => exact ⟨k + 1, by go_num, by omega, by rw [HTS.out, ← Nat.add_assoc, ← HNN.out]; go_num, by rw [HTS.out, ← Nat.add_assoc, ← HNN.out]; omega, HX3.out⟩
              case measure => simp [intOf]; omega
            · have HR := Lib.hid (show (min N 2001 : Nat) = expF l (f + 1) e by
                rw [HQ.out, HNN.out]
                exact exp_end (by
                  rw [← HNN.out]
                  by_cases h : k < na
                  · exact Or.inl (by have := fun h2 => hgo ⟨h, h2⟩; omega)
                  · exact Or.inr (by have := HNA.out; omega)))
              have hX := HXA.out.trans HXR.out
              have HXE := Lib.hid hX
              clear hX
              by_cases hkn : k < na
              · have t1 : decide ((k : Int) < (na : Int)) = true := decide_eq_true (by omega)
                have t2 : decide ((N : Int) ≤ 2000) = false := decide_eq_false (by omega)
                clear hgo
                go_wp2_with fail
                all_goals (go_ret; exact givesE_of (by rw [← HR.out]; omega) HXE.out)
              · have t1 : decide ((k : Int) < (na : Int)) = false := decide_eq_false (by omega)
                clear hgo
                go_wp2_with fail
                all_goals (go_ret; exact givesE_of (by rw [← HR.out]; omega) HXE.out)
theorem rExpanded_calls (l : List Cla) (a : Option Addr) (n c : Nat) (hn : n ≤ 1000000) (hsz : ∀ x ∈ l, x.cond.size ≤ 1000000000000000) (e : Ex) (ev : Value) (w : World) (he : e.size ≤ 1000000000000000) (hl : IsClas w l a n c) (hx : IsEx w e ev) :
    Calls Tryz.prog 38 #[.slice a n c, ev] w (GivesE (.int .i64 (expanded l e)) w) := by
  have HL := Lib.hid hl
  have HX := Lib.hid hx
  have HLN := Lib.hid hl.len
  obtain ⟨aw, nw, cw, aa, na, ca, rfl, -, -, -, -, -⟩ := hx.parts
  have HC := Lib.hid (rexp_calls l a n c hn hsz (n + 1) 1000000000000000 e (exV e.op e.name aw nw cw e.lo e.hi aa na ca))
  clear hl hx
  unfold exV at *
  go_enter Tryz.func38, Tryz.ntmps38
  go_wp2_with fail
  refine (HC.out _ 0 (by omega) he (by omega) (HL.out.ext ((Ext.refl w).alloc _)) (HX.out.ext ((Ext.refl w).alloc _))).mono ?_
  rintro r w1 ⟨rfl, hx1⟩
  have HX1 := Lib.hid (((Ext.refl w).alloc _).trans hx1)
  clear hx1
  go_wp2_with fail
  go_ret
  exact givesE_of (by rw [expanded, HLN.out]) HX1.out
end Go.Proofs.YtfjlglefodndjaaGreatDoor

namespace Go.Proofs.YtfjlglefodndjaaGreatDoor
open Go.RowKit Go.Maps

/-! check.expanded: the count with the sizes of a map. -/
def natF (D : ByteArray → Option Nat) : ByteArray → Option Value := fun s => (D s).map fun (n : Nat) => Value.int .i64 (n : Int)
mutual
theorem szE_le {D : ByteArray → Option Nat} (hD : ∀ s n, D s = some n → n ≤ 2001) : (e : Ex) → szE D e ≤ 2001
  | .mk op name _ _ _ args => by
    rw [szE]
    have hl := szL_le hD args 1 (by omega)
    by_cases h3 : op = 3
    · rw [if_pos h3]
      cases hd : D name with
      | none => exact hl
      | some n => exact hD name n hd
    · rw [if_neg h3]
      exact hl
theorem szL_le {D : ByteArray → Option Nat} (hD : ∀ s n, D s = some n → n ≤ 2001) : (l : List Ex) → ∀ n, n ≤ 2001 → szL D n l ≤ 2001
  | [], n, hn => by simp [szL]; omega
  | e :: r, n, hn => by
    rw [szL]
    exact szL_le hD r _ (by omega)
end
def CExpL (D : ByteArray → Option Nat) (na : Nat) (args : List Ex) (w1 : World) (t i : Value) (wr : World) : Prop := ∃ k : Nat, i = .int .i64 k ∧ k ≤ na ∧ t = .int .i64 ((szL D 1 (args.take k) : Nat) : Int) ∧ szL D 1 (args.take k) ≤ 2001 ∧ Ext w1 wr
set_option maxRecDepth 100000 in
set_option maxHeartbeats 8000000 in
theorem cexp_calls (D : ByteArray → Option Nat) (hD : ∀ s n, D s = some n → n ≤ 2001) (bm nm : Nat) : ∀ (m : Nat) (e : Ex) (ev : Value) (w : World), e.size ≤ m → m ≤ 1000000000000000 → e.fits → MapAt w 9 bm nm (strF (natF D)) → IsEx w e ev →
    Calls Tryz.prog 32 #[.map (some bm), ev] w (GivesE (.int .i64 (szE D e)) w) := by
  intro m
  induction m with
  | zero => intro e ev w h; have := size_pos e; omega
  | succ m ihm =>
    intro e ev w hm hMM hfit hmap he
    obtain ⟨aw, nw, cw, aa, na, ca, rfl, hw, hna, hca, ha, hx⟩ := he.parts
    obtain ⟨hnm, hfa⟩ := fits_parts2 hfit
    have hS : e.size = 1 + sizes e.args := e.size_eq
    have hla := length_le_sizes e.args
    have hna2 : na ≤ 1000000000000000 := by omega
    have hszm : sizes e.args ≤ m := by omega
    have HM := Lib.hid hmap
    have HX := Lib.hid hx
    have HNA := Lib.hid hna
    have HFA := Lib.hid hfa
    have HSL := Lib.hid (szE_le hD)
    have HEQ := Lib.hid (szE_eq' D e)
    have IHM := Lib.hid ihm
    clear hw hna hca ha hx he hS hla ihm hm hfa hfit hmap
    unfold exV
    obtain ⟨wa, hwa⟩ : ∃ wa, wa = w.alloc (.cells #[.int .i64 e.op, .string e.name, .slice aw nw cw, .int .i64 e.lo, .int .i64 e.hi, .slice aa na ca] 29) := ⟨_, rfl⟩
    have hxa : Ext w wa := by rw [hwa]; exact (Ext.refl _).alloc _
    have hb1 : wa.heap[w.heap.size]? = some (.cells #[.int .i64 e.op, .string e.name, .slice aw nw cw, .int .i64 e.lo, .int .i64 e.hi, .slice aa na ca] 29 (0, 0)) := by rw [hwa]; exact alloc_new w _
    have HXA := Lib.hid hxa
    have HB1 := Lib.hid hb1
    obtain ⟨f0, f1, f2, f3, f4, f5, ff⟩ := blk6 hb1
    have hltw := blk_lt hb1
    have HMA := Lib.hid (HM.out.ext hxa)
    clear hxa hb1
    by_cases hdef : e.op = 3 ∧ (D e.name).isSome = true
    · obtain ⟨h3, hds⟩ := hdef
      obtain ⟨q, hq⟩ := Option.isSome_iff_exists.1 hds
      have t3 : (e.op == 3) = true := by simp [h3]
      have HQ := Lib.hid (show szE D e = q by rw [HEQ.out, if_pos h3, hq])
      have HF := Lib.hid (show strF (natF D) (.string e.name.data.toList) = some (.int .i64 q) by rw [strF_at, natF, hq]; rfl)
      clear hds hq h3 HEQ
      go_enter Tryz.func32, Tryz.ntmps32
      go_upto_region 2 with fail
      rw [← hwa]
      clear hwa
      go_wp2_with (at_lookup; refine wpList_map_ok _ rfl _ _ 65 rfl 9 3 keyedStr uMapSI (zeroInt _) bm nm _ rfl HMA.out _ _ rfl (keyStr hnm) trivial ?_; rw [HF.out])
      go_ret
      exact givesE_of (by rw [HQ.out]) HXA.out
    · have HQ := Lib.hid (show szE D e = szL D 1 e.args by
        rw [HEQ.out]
        by_cases h3 : e.op = 3
        · rw [if_pos h3]
          cases hd : D e.name with
          | none => rfl
          | some q => exact absurd ⟨h3, by rw [hd]; rfl⟩ hdef
        · rw [if_neg h3])
      clear HEQ
      by_cases h3 : e.op = 3
      case' pos =>
        have t3 : (e.op == 3) = true := by simp [h3]
        have HF := Lib.hid (show strF (natF D) (.string e.name.data.toList) = none by
          rw [strF_at, natF]
          cases hd : D e.name with
          | none => rfl
          | some q => exact absurd ⟨h3, by rw [hd]; rfl⟩ hdef)
        clear h3 hdef
        go_enter Tryz.func32, Tryz.ntmps32
        go_upto_region 2 with fail
        rw [← hwa]
        clear hwa
        go_wp2_with (at_lookup; refine wpList_map_ok _ rfl _ _ 65 rfl 9 3 keyedStr uMapSI (zeroInt _) bm nm _ rfl HMA.out _ _ rfl (keyStr hnm) trivial ?_; rw [HF.out])
        clear HF
      case' neg =>
        have t3 : (e.op == 3) = false := by simp [h3]
        clear h3 hdef
        go_enter Tryz.func32, Tryz.ntmps32
        go_wp2_with fail
        rw [← hwa]
        clear hwa
      all_goals
        clear f0 f1 f2 f3 f4 f5 ff
        go_loopw [7, 25] (CExpL D na e.args wa) (fun _ i _ => na - (intOf i).toNat)
        case atStart => exact ⟨0, rfl, by omega, by simp [szL], by simp [szL], Ext.refl _⟩
        case round =>
          obtain ⟨k, rfl, hk, rfl, hle, hxr⟩ := hrel
          have HXR := Lib.hid hxr
          clear hxr
          obtain ⟨N, hN⟩ : ∃ N, N = szL D 1 (e.args.take k) := ⟨_, rfl⟩
          rw [← hN] at hle ⊢
          have HNN := Lib.hid hN
          clear hN
          by_cases hkn : k < na
          · have hka : k < e.args.length := by have := HNA.out; omega
            have t1 : decide ((k : Int) < (na : Int)) = true := decide_eq_true (by omega)
            obtain ⟨b, off, rfl, aw1, nw1, cw1, aa1, na1, ca1, h0, h1, h2, h3, h4, h5, h6⟩ := ExsD.at e.args _ (ExsD.ext (HXA.out.trans HXR.out) e.args _ HX.out) k hka
            have H6 := Lib.hid h6
            have hs1 := sizes_take_succ e.args k hka
            have hs2 := sizes_take_le e.args (k + 1)
            have hk1 : e.args[k].size ≤ m := by omega
            have HTS := Lib.hid (szL_take_succ D e.args 1 k hka)
            have hel := HSL.out e.args[k]
            have hblt := block_lt h0
            simp only at hblt
            clear h6 hs1 hs2
            obtain ⟨wx, hwx⟩ : ∃ wx, wx = wr.alloc (.cells #[.int .i64 e.args[k].op, .string e.args[k].name, .slice aw1 nw1 cw1, .int .i64 e.args[k].lo, .int .i64 e.args[k].hi, .slice aa1 na1 ca1] 29) := ⟨_, rfl⟩
            have HXX := Lib.hid (show Ext wr wx by rw [hwx]; exact (Ext.refl _).alloc _)
            go_wp2_with fail
            rw [← hwx]
            clear hwx
            refine (IHM.out e.args[k] _ _ hk1 (by omega) (HFA.out _ (List.getElem_mem hka)) (HMA.out.ext (HXR.out.trans HXX.out)) (H6.out.ext HXX.out)).mono ?_
            rintro r w3 ⟨rfl, hx3⟩
            have HX3 := Lib.hid (HXR.out.trans (HXX.out.trans hx3))
            clear hx3 h0 h1 h2 h3 h4 h5
            go_wp2_with fail
            all_goals
              go_roundw
              case rel => exact ⟨k + 1, by go_num, by omega, by rw [HTS.out, ← HNN.out]; congr 1; omega, by rw [HTS.out]; omega, HX3.out⟩
              case measure => simp [intOf]; omega
          · have t1 : decide ((k : Int) < (na : Int)) = false := decide_eq_false (by omega)
            have HR := Lib.hid (show N = szE D e by rw [HQ.out, HNN.out, List.take_of_length_le (by have := HNA.out; omega)])
            have HXE := Lib.hid (HXA.out.trans HXR.out)
            go_wp2_with fail
            go_ret
            exact givesE_of (by rw [← HR.out]) HXE.out
end Go.Proofs.YtfjlglefodndjaaGreatDoor
