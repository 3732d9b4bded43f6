/-
  Texts of the claim, joined: Ref4, Names1, Ord1, Spec10, RIdx, SIdx.
-/
import Derived.Test.YtfjlglefodndjaaGreatDoorCe07
import Derived.Test.YtfjlglefodndjaaGreatDoorCe01
import Derived.Maps.OwnSet
import Derived.Sort.KeysCollected
import Derived.Test.YtfjlglefodndjaaGreatDoorProg
import Derived.Test.YtfjlglefodndjaaGreatDoorCe06
namespace Go.Proofs.YtfjlglefodndjaaGreatDoor
open Go.RowKit

mutual
def nodesB : Ex → Bool
  | .mk op name words lo hi args => refNodeB (.mk op name words lo hi args) && nodesAll args
def nodesAll : List Ex → Bool
  | [] => true
  | e :: r => nodesB e && nodesAll r
end
theorem nodesB_eq (e : Ex) : nodesB e = (refNodeB e && nodesAll e.args) := by cases e; rw [nodesB]; rfl
theorem nodesAll_iff (l : List Ex) : nodesAll l = true ↔ ∀ j (h : j < l.length), nodesB l[j] = true := by
  induction l with
  | nil => simp [nodesAll]
  | cons e r ih =>
    rw [nodesAll, Bool.and_eq_true, ih]
    constructor
    · rintro ⟨h1, h2⟩ j hj
      cases j with
      | zero => exact h1
      | succ j => exact h2 j (by simpa using hj)
    · intro h
      exact ⟨h 0 (by simp), fun j hj => h (j + 1) (by simpa using hj)⟩
mutual
def Ex.few : Ex → Prop
  | .mk _ _ words _ _ args => words.length ≤ 1000000000000000 ∧ fewAll args
def fewAll : List Ex → Prop
  | [] => True
  | e :: r => e.few ∧ fewAll r
end
theorem fewAll_at : (l : List Ex) → fewAll l → (k : Nat) → (hk : k < l.length) → l[k].few
  | [], _, k, hk => by simp at hk
  | e :: r, h, 0, _ => by unfold fewAll at h; exact h.1
  | e :: r, h, k + 1, hk => by unfold fewAll at h; simpa using fewAll_at r h.2 k (by simpa using hk)
theorem few_parts {e : Ex} (h : e.few) : e.words.length ≤ 1000000000000000 ∧ fewAll e.args := by
  cases e; unfold Ex.few at h; exact h

set_option maxRecDepth 100000 in
set_option maxHeartbeats 1000000 in
theorem nodes_calls (m : Nat) : ∀ (e : Ex) (v : Value) (w : World), e.size ≤ m → m ≤ 1000000000000000 → e.fits → e.few → IsEx w e v → Calls Tryz.prog 57 #[v] w (GivesE (.bool (nodesB e)) w) := by
  induction m with
  | zero => intro e v w h; have := size_pos e; omega
  | succ m ih =>
    intro e v w hm hMM hf hw2 he
    have HE := Lib.hid he
    obtain ⟨aw, nw, cw, aa, na, ca, rfl, hw, hna, hca, ha, hx⟩ := he.parts
    have HX := Lib.hid hx
    have HN := Lib.hid hna
    have HF := Lib.hid (fits_parts hf)
    have HW := Lib.hid (few_parts hw2)
    have hS : e.size = 1 + sizes e.args := e.size_eq
    have hb2 : sizes e.args ≤ m := by omega
    have hla := length_le_sizes e.args
    have H : Hid (∀ (e : Ex) (v : Value) (w : World), e.size ≤ m → e.fits → e.few → IsEx w e v → Calls Tryz.prog 57 #[v] w (GivesE (.bool (nodesB e)) w)) := fun e v w h1 h2 h3 h4 => ih e v w h1 (by omega) h2 h3 h4
    have HQ := Lib.hid (nodesB_eq e)
    generalize nodesB e = B at *
    clear ih hx hna hw hca ha he hS hm hf hw2
    have HNC := Lib.hid (rnode_calls e _ (w.alloc (.cells #[.int .i64 e.op, .string e.name, .slice aw nw cw, .int .i64 e.lo, .int .i64 e.hi, .slice aa na ca] 29)) (HE.out.ext ((Ext.refl w).alloc _)) HF.out.1 HF.out.2.1 HW.out.1)
    unfold exV at *
    cases hnode : refNodeB e
    · have HND := Lib.hid hnode
      have H1 := Lib.hid (show B = false by rw [HQ.out, hnode]; rfl)
      clear hnode
      go_enter Tryz.func57, Tryz.ntmps57
      go_wp2_with fail
      refine HNC.out.mono ?_
      rintro r w1 ⟨rfl, hx1⟩
      rw [HND.out]
      have HX1 := Lib.hid (((Ext.refl w).alloc _).trans hx1)
      clear hx1
      go_wp2_with fail
      go_ret
      exact givesE_bool (by rw [H1.out]) HX1.out
    · have HND := Lib.hid hnode
      have HQ2 := Lib.hid (show B = nodesAll e.args by rw [HQ.out, hnode]; rfl)
      clear hnode
      go_enter Tryz.func57, Tryz.ntmps57
      go_wp2_with fail
      refine HNC.out.mono ?_
      rintro r w1 ⟨rfl, hx1⟩
      rw [HND.out]
      have HBX1 := Lib.hid (hx1.blk (alloc_new w _))
      have HX1 := Lib.hid (((Ext.refl w).alloc _).trans hx1)
      clear hx1
      go_wp2_with fail
      go_loopw [3] (fun i wr => ∃ k : Nat, k ≤ na ∧ i = .int .i64 k ∧ (∀ j (hj : j < e.args.length), j < k → nodesB e.args[j] = true) ∧ wr.heap[w.heap.size]? = some (.cells #[.int .i64 e.op, .string e.name, .slice aw nw cw, .int .i64 e.lo, .int .i64 e.hi, .slice aa na ca] 29 (0, 0)) ∧ Ext w wr) (fun i _ => na - (intOf i).toNat)
      case atStart => exact ⟨0, by omega, rfl, fun j _ h => by omega, HBX1.out, HX1.out⟩
      case round =>
        obtain ⟨k, hk, rfl, hall, hbx, hb⟩ := hrel
        have HA := Lib.hid hall
        have HBX := Lib.hid hbx
        have HB := Lib.hid hb
        have hlt0 := blk_lt hbx
        obtain ⟨b0, b1, b2, b3, b4, b5, bf⟩ := blk6 hbx
        clear hbx hb hall
        by_cases hlt : k < na
        · have hlt' : k < e.args.length := by have := HN.out; omega
          obtain ⟨b, off, rfl, aw1, nw1, cw1, aa1, na1, ca1, h0, h1, h2, h3, h4, h5, h6⟩ := ExsD.at e.args _ (ExsD.ext HB.out e.args _ HX.out) k hlt'
          have H6 := Lib.hid h6
          have hsz := sizes_take_succ e.args k hlt'
          have hsl := sizes_take_le e.args (k + 1)
          have hk1 : e.args[k].size ≤ m := by omega
          clear h6 hsz hsl
          go_wp2_with fail
          refine (H.out e.args[k] _ _ hk1 (fitsAll_at _ HF.out.2.2 k hlt') (fewAll_at _ HW.out.2 k hlt') H6.out).mono ?_
          rintro r w2 ⟨rfl, hb1⟩
          have HE1 := Lib.hid hb1
          clear b0 b1 b2 b3 b4 b5 bf hb1
          cases hdp : nodesB e.args[k]
          · have H1 := Lib.hid (show B = false by
              rw [HQ2.out]
              cases hz : nodesAll e.args
              · rfl
              · have := (nodesAll_iff _).1 hz k hlt'; rw [hdp] at this; cases this)
            clear hdp
            go_wp2_with fail
            go_ret
            exact givesE_bool (by rw [H1.out]) (HB.out.trans HE1.out)
          · have HND2 := Lib.hid hdp
            clear hdp
            go_wp2_with fail
            go_roundw
            case rel =>
              refine ⟨k + 1, by omega, by go_num, fun j hj hjk => ?_, HE1.out.blk HBX.out, HB.out.trans HE1.out⟩
              by_cases ej : j = k
              · subst ej; exact HND2.out
              · exact HA.out j hj (by omega)
            case measure => simp [intOf]; omega
        · have H1 := Lib.hid (show B = true by rw [HQ2.out]; exact (nodesAll_iff _).2 (fun j hj => HA.out j hj (by have := HN.out; omega)))
          go_wp2_with fail
          go_ret
          exact givesE_bool (by rw [H1.out]) HB.out

def refExprB (e : Ex) : Bool := !decide (16 < e.depth) && decide (refSize e ≤ 300) && nodesB e
set_option maxRecDepth 100000 in
theorem rexpr_slim (e : Ex) (v : Value) (w : World) (he : IsEx w e v) (hsz : e.slim) (hf : e.fits) (hw : e.few) : Calls Tryz.prog 27 #[v] w (GivesE (.bool (refExprB e)) w) := by
  have HE := Lib.hid he
  have HF := Lib.hid hf
  have HW := Lib.hid hw
  have HQ := Lib.hid (show refExprB e = (!decide (16 < e.depth) && decide (refSize e ≤ 300) && nodesB e) from rfl)
  generalize refExprB e = B at *
  obtain ⟨aw, nw, cw, aa, na, ca, rfl, -⟩ := he.parts
  have HSZ := Lib.hid hsz
  clear he hf hw hsz
  have HA := Lib.hid (fun W (h : Ext (w.alloc (.cells #[.int .i64 e.op, .string e.name, .slice aw nw cw, .int .i64 e.lo, .int .i64 e.hi, .slice aa na ca] 29)) W) => ((Ext.refl w).alloc _).trans h)
  have HNB := Lib.hid (alloc_new w (.cells #[.int .i64 e.op, .string e.name, .slice aw nw cw, .int .i64 e.lo, .int .i64 e.hi, .slice aa na ca] 29))
  unfold exV at *
  go_enter Tryz.func27, Tryz.ntmps27
  go_wp2_with fail
  refine (deeper_slim e.size e _ _ 16 (Nat.le_refl _) HSZ.out (by omega) (HE.out.ext ((Ext.refl w).alloc _))).mono ?_
  rintro r w1 ⟨rfl, hx1⟩
  have HX1 := Lib.hid (HA.out _ hx1)
  have hb1 := hx1.blk HNB.out
  have HB1 := Lib.hid hb1
  have hz1 := blk_lt hb1
  obtain ⟨b0, b1, b2, b3, b4, b5, bf⟩ := blk6 hb1
  clear hx1 hb1 HA
  by_cases hd : 16 < e.depth
  · rw [decide_eq_true hd]
    have H1 := Lib.hid (show B = false by rw [HQ.out]; simp [hd])
    clear hd
    go_wp2_with fail
    go_ret
    exact givesE_bool (by rw [H1.out]) HX1.out
  · rw [decide_eq_false hd]
    have HD := Lib.hid hd
    clear hd
    go_wp2_with fail
    refine (rsize_calls e.size e _ _ (Nat.le_refl _) (HE.out.ext HX1.out)).mono ?_
    rintro r w2 ⟨rfl, hx2⟩
    have HX2 := Lib.hid (HX1.out.trans hx2)
    have hb2 := hx2.blk HB1.out
    have hz2 := blk_lt hb2
    clear b0 b1 b2 b3 b4 b5 bf hx2
    obtain ⟨b0, b1, b2, b3, b4, b5, bf⟩ := blk6 hb2
    clear hb2
    by_cases hs : refSize e ≤ 300
    · have t1 : decide ((refSize e : Int) ≤ 300) = true := by simp; omega
      have HS := Lib.hid hs
      have HZ := Lib.hid (show e.size ≤ 1000000000000000 by unfold refSize at hs; omega)
      clear hs
      go_wp2_with fail
      refine (nodes_calls e.size e _ _ (Nat.le_refl _) HZ.out HF.out HW.out (HE.out.ext HX2.out)).mono ?_
      rintro r w3 ⟨rfl, hx3⟩
      have HX3 := Lib.hid (HX2.out.trans hx3)
      clear b0 b1 b2 b3 b4 b5 bf hx3
      go_wp2_with fail
      go_ret
      exact givesE_bool (by rw [HQ.out]; simp [HD.out, HS.out]) HX3.out
    · have t1 : decide ((refSize e : Int) ≤ 300) = false := by simp; omega
      have H1 := Lib.hid (show B = false by rw [HQ.out]; simp [hs])
      clear hs
      go_wp2_with fail
      go_ret
      exact givesE_bool (by rw [H1.out]) HX2.out
theorem rexpr_calls (e : Ex) (v : Value) (w : World) (he : IsEx w e v) (hsz : e.size ≤ 1000000000000000) (hf : e.fits) (hw : e.few) : Calls Tryz.prog 27 #[v] w (GivesE (.bool (refExprB e)) w) := rexpr_slim e v w he (slim_of_size e hsz) hf hw
end Go.Proofs.YtfjlglefodndjaaGreatDoor

namespace Go.Proofs.YtfjlglefodndjaaGreatDoor
open Go.RowKit Go.Maps

mutual
/-- The names that are used, as they are met. -/
def namesE : Ex → List ByteArray
  | .mk op name _ _ _ args => (if op = 3 then [name] else []) ++ namesL args
def namesL : List Ex → List ByteArray
  | [] => []
  | e :: r => namesE e ++ namesL r
end
theorem namesE_eq (e : Ex) : namesE e = (if e.op = 3 then [e.name] else []) ++ namesL e.args := by cases e; rw [namesE]; rfl
theorem namesL_snoc (l : List Ex) (e : Ex) : namesL (l ++ [e]) = namesL l ++ namesE e := by
  induction l with
  | nil => simp [namesL]
  | cons a r ih => simp [namesL, ih]
theorem namesL_take (l : List Ex) (k : Nat) (h : k < l.length) : namesL (l.take (k + 1)) = namesL (l.take k) ++ namesE l[k] := by
  rw [List.take_succ_eq_append_getElem h, namesL_snoc]

/-- A map that is the set of these names. -/
def SetIs (D : DataW Unit) (l : List ByteArray) : Prop := ∃ es, D = .map es ∧ (∀ p ∈ es, ∃ s, p.1 = .string s) ∧ (strKeys D).Nodup ∧ ∀ s, s ∈ strKeys D ↔ ∃ x ∈ l, x.data.toList = s
theorem setIs_nil : SetIs (.map []) [] := ⟨[], rfl, by simp, by simp [strKeys], by simp [strKeys]⟩
theorem insert_perm {H : Type} (x : Lit × DataW H) : (l : List (Lit × DataW H)) → (DataW.insert x l).Perm (x :: l)
  | [] => List.Perm.refl _
  | y :: r => by
    rw [DataW.insert]
    split
    · exact List.Perm.refl _
    · exact ((insert_perm x r).cons y).trans (List.Perm.swap x y r)
theorem SetIs.put {D : DataW Unit} {l : List ByteArray} (h : SetIs D l) (x : ByteArray) (d : DataW Unit) : SetIs (D.put (.string x.data.toList) d) (l ++ [x]) := by
  obtain ⟨es, rfl, hs, hn, hm⟩ := h
  have hp := insert_perm ((.string x.data.toList, d) : Lit × DataW Unit) (es.filter fun p => !p.1.sameKey (.string x.data.toList))
  have hk : (strKeys (DataW.put (.map es) (.string x.data.toList) d)).Perm (x.data.toList :: strKeys (H := Unit) (.map (es.filter fun p => !p.1.sameKey (.string x.data.toList)))) := by
    simp only [DataW.put, strKeys]
    exact hp.map _
  have hf : ∀ s, s ∈ strKeys (H := Unit) (.map (es.filter fun p => !p.1.sameKey (.string x.data.toList))) ↔ s ∈ strKeys (H := Unit) (.map es) ∧ s ≠ x.data.toList := by
    intro s
    simp only [strKeys, List.mem_map, List.mem_filter]
    constructor
    · rintro ⟨p, ⟨h1, h2⟩, rfl⟩
      obtain ⟨t, ht⟩ := hs p h1
      refine ⟨⟨p, h1, rfl⟩, fun e => ?_⟩
      rw [ht] at h2 e
      simp only [strOf] at e
      subst e
      simp [Lit.sameKey] at h2
    · rintro ⟨⟨p, h1, rfl⟩, h2⟩
      obtain ⟨t, ht⟩ := hs p h1
      refine ⟨p, ⟨h1, ?_⟩, rfl⟩
      rw [ht] at h2 ⊢
      simp only [strOf] at h2
      simpa [Lit.sameKey] using h2
  refine ⟨_, rfl, fun p hp' => ?_, ?_, fun s => ?_⟩
  · have := hp.mem_iff.1 hp'
    rcases List.mem_cons.1 this with rfl | h1
    · exact ⟨_, rfl⟩
    · exact hs p (List.mem_filter.1 h1).1
  · rw [hk.nodup_iff, List.nodup_cons]
    refine ⟨fun h => ((hf _).1 h).2 rfl, ?_⟩
    have : (strKeys (H := Unit) (.map (es.filter fun p => !p.1.sameKey (.string x.data.toList)))).Sublist (strKeys (H := Unit) (.map es)) := by
      simp only [strKeys]
      exact (List.filter_sublist).map _
    exact hn.sublist this
  · rw [hk.mem_iff, List.mem_cons, hf, hm]
    constructor
    · rintro (rfl | ⟨⟨y, h1, h2⟩, _⟩)
      · exact ⟨x, by simp, rfl⟩
      · exact ⟨y, by simp [h1], h2⟩
    · rintro ⟨y, h1, rfl⟩
      rcases List.mem_append.1 h1 with h1 | h1
      · by_cases e : y.data.toList = x.data.toList
        · exact Or.inl e
        · exact Or.inr ⟨⟨y, h1, rfl⟩, e⟩
      · rw [List.mem_singleton.1 h1]; exact Or.inl rfl

/-- The reference's put: a string into an ascending list. -/
def putL (s : ByteArray) : List ByteArray → List ByteArray
  | [] => [s]
  | x :: r => if s.toList < x.toList then s :: x :: r else if s.toList = x.toList then x :: r else x :: putL s r
def refNames (l : List ByteArray) : List ByteArray := l.foldl (fun l s => putL s l) []
def Up (l : List ByteArray) : Prop := l.Pairwise (fun a b => a.toList < b.toList)
theorem lt_or {a b : List UInt8} (h1 : ¬ a < b) (h2 : a ≠ b) : b < a := by
  by_cases h : b < a
  · exact h
  · exact absurd (List.le_antisymm (List.not_lt.1 h) (List.not_lt.1 h1)) h2
theorem putL_mem (s y : ByteArray) : (l : List ByteArray) → (y ∈ putL s l ↔ y = s ∨ y ∈ l)
  | [] => by simp [putL]
  | x :: r => by
    rw [putL]
    split
    · simp
    · split
      · rename_i h1 h2
        have := toList_inj h2
        subst this
        simp
      · simp only [List.mem_cons, putL_mem s y r]
        constructor
        · rintro (h | h | h)
          · exact Or.inr (Or.inl h)
          · exact Or.inl h
          · exact Or.inr (Or.inr h)
        · rintro (h | h | h)
          · exact Or.inr (Or.inl h)
          · exact Or.inl h
          · exact Or.inr (Or.inr h)
theorem putL_up (s : ByteArray) : (l : List ByteArray) → Up l → Up (putL s l)
  | [], _ => by simp [putL, Up]
  | x :: r, h => by
    obtain ⟨h1, h2⟩ := List.pairwise_cons.1 h
    rw [putL]
    split
    · rename_i hlt
      refine List.pairwise_cons.2 ⟨fun y hy => ?_, h⟩
      rcases List.mem_cons.1 hy with rfl | hy
      · exact hlt
      · exact List.lt_trans hlt (h1 y hy)
    · split
      · exact h
      · rename_i n1 n2
        refine List.pairwise_cons.2 ⟨fun y hy => ?_, putL_up s r h2⟩
        rcases (putL_mem s y r).1 hy with rfl | hy
        · exact lt_or n1 n2
        · exact h1 y hy
theorem fold_up (m : List ByteArray) : ∀ l, Up l → Up (m.foldl (fun l s => putL s l) l) := by
  induction m with
  | nil => intro l h; exact h
  | cons a r ih => intro l h; exact ih _ (putL_up a l h)
theorem fold_mem (m : List ByteArray) : ∀ l y, y ∈ m.foldl (fun l s => putL s l) l ↔ y ∈ m ∨ y ∈ l := by
  induction m with
  | nil => intro l y; simp
  | cons a r ih =>
    intro l y
    rw [List.foldl_cons, ih, putL_mem, List.mem_cons]
    constructor
    · rintro (h | h | h)
      · exact Or.inl (Or.inr h)
      · exact Or.inl (Or.inl h)
      · exact Or.inr h
    · rintro ((h | h) | h)
      · exact Or.inr (Or.inl h)
      · exact Or.inl h
      · exact Or.inr (Or.inr h)
theorem refNames_up (l : List ByteArray) : Up (refNames l) := fold_up l [] (by simp [Up])
theorem refNames_mem (l : List ByteArray) (y : ByteArray) : y ∈ refNames l ↔ y ∈ l := by rw [refNames, fold_mem]; simp
theorem putL_len (s : ByteArray) : (l : List ByteArray) → (putL s l).length ≤ l.length + 1
  | [] => by simp [putL]
  | x :: r => by
    have := putL_len s r
    rw [putL]
    split
    · simp
    · split <;> simp <;> omega
theorem fold_len (m : List ByteArray) : ∀ l : List ByteArray, (m.foldl (fun l s => putL s l) l).length ≤ m.length + l.length := by
  induction m with
  | nil => intro l; simp
  | cons a r ih => intro l; have := ih (putL a l); have := putL_len a l; simp only [List.foldl_cons, List.length_cons]; omega
/-- What the program's Names hands back is what the reference's does. -/
theorem names_same {D : DataW Unit} {l : List ByteArray} {ss : List (List UInt8)} (h : SetIs D l) (hp : ss.Perm (strKeys D)) : (ss.mergeSort (fun x y => decide (x ≤ y))) = (refNames l).map (·.data.toList) := by
  obtain ⟨es, rfl, hs, hn, hm⟩ := h
  have tr : ∀ a b c : List UInt8, decide (a ≤ b) = true → decide (b ≤ c) = true → decide (a ≤ c) = true := fun a b c h1 h2 => by simp only [decide_eq_true_eq] at *; exact List.le_trans h1 h2
  have tto : ∀ a b : List UInt8, (decide (a ≤ b) || decide (b ≤ a)) = true := fun a b => by simp only [Bool.or_eq_true, decide_eq_true_eq]; exact List.le_total a b
  have hu := refNames_up l
  have eL : ∀ x : ByteArray, x.toList = x.data.toList := fun x => ByteArray.toList_eq x
  have hup : ((refNames l).map (·.data.toList)).Pairwise (fun a b => a < b) := by
    refine List.pairwise_map.2 (hu.imp fun {a b} h => ?_)
    rwa [eL, eL] at h
  have hnd : ((refNames l).map (·.data.toList)).Nodup := hup.imp fun {a b} h e => by subst e; exact List.lt_irrefl _ h
  have hperm : ((refNames l).map (·.data.toList)).Perm (strKeys (H := Unit) (.map es)) := by
    refine (List.perm_ext_iff_of_nodup hnd hn).2 fun s => ?_
    rw [hm, List.mem_map]
    constructor
    · rintro ⟨x, hx, rfl⟩; exact ⟨x, (refNames_mem l x).1 hx, rfl⟩
    · rintro ⟨x, hx, rfl⟩; exact ⟨x, (refNames_mem l x).2 hx, rfl⟩
  refine List.Perm.eq_of_pairwise (le := fun a b => decide (a ≤ b) = true) (fun a b _ _ h1 h2 => ?_) (List.pairwise_mergeSort tr tto ss) (hup.imp fun {a b} h => ?_) (((List.mergeSort_perm ss _).trans hp).trans hperm.symm)
  · simp only [decide_eq_true_eq] at h1 h2; exact List.le_antisymm h1 h2
  · simp only [decide_eq_true_eq]; exact List.le_of_lt h
end Go.Proofs.YtfjlglefodndjaaGreatDoor

namespace Go.Proofs.YtfjlglefodndjaaGreatDoor

/-! The plain law of check.Order: definitions in an order in which each comes after those that it uses. -/
/-- What Order looks at in a clause: whether it defines, its name, the names that it uses. -/
structure Dfn where
  is : Bool
  name : ByteArray
  uses : List ByteArray
def firstAt (l : List Dfn) (s : ByteArray) : Option Nat := l.findIdx? fun d => d.is && decide (d.name = s)
def isDef (l : List Dfn) (i : Nat) : Bool := match l[i]? with | some d => d.is | none => false
def usesAt (l : List Dfn) (i : Nat) : List ByteArray := match l[i]? with | some d => d.uses | none => []
def nameAt (l : List Dfn) (i : Nat) : ByteArray := match l[i]? with | some d => d.name | none => ⟨#[]⟩
/-- The names that i still waits for when the definitions of o are done. -/
def missL (l : List Dfn) (o : List Nat) (i : Nat) : List ByteArray := (usesAt l i).filter fun s => match firstAt l s with | some d => decide (d ∉ o) | none => false
def usersOf (l : List Dfn) (s : ByteArray) : List Nat := (List.range l.length).filter fun i => isDef l i && (usesAt l i).any fun t => decide (t = s)
def countOf (l : List Dfn) : Nat := ((List.range l.length).filter (isDef l)).length
def After (l : List Dfn) (o : List Nat) : Prop := ∀ p i, o[p]? = some i → ∀ s ∈ usesAt l i, ∀ d, firstAt l s = some d → d ∈ o.take p
structure Topo (l : List Dfn) (o : List Nat) : Prop where
  nodup : o.Nodup
  all : ∀ i, i ∈ o ↔ isDef l i = true
  after : After l o
structure OInv (l : List Dfn) (o R : List Nat) : Prop where
  nodup : (o ++ R).Nodup
  ready : ∀ i, i ∈ o ++ R ↔ (isDef l i = true ∧ missL l o i = [])
  after : After l o

theorem mem_miss {l : List Dfn} {o : List Nat} {i : Nat} {s : ByteArray} : s ∈ missL l o i ↔ s ∈ usesAt l i ∧ ∃ d, firstAt l s = some d ∧ d ∉ o := by
  unfold missL
  rw [List.mem_filter]
  refine and_congr_right fun _ => ?_
  cases h : firstAt l s <;> simp
theorem miss_nil {l : List Dfn} {o : List Nat} {i : Nat} : missL l o i = [] ↔ ∀ s ∈ usesAt l i, ∀ d, firstAt l s = some d → d ∈ o := by
  rw [List.eq_nil_iff_forall_not_mem]
  constructor
  · intro h s hs d hd
    by_cases hm : d ∈ o
    · exact hm
    · exact absurd (mem_miss.2 ⟨hs, d, hd, hm⟩) (h s)
  · intro h s hs
    obtain ⟨h1, d, h2, h3⟩ := mem_miss.1 hs
    exact h3 (h s h1 d h2)
theorem isDef_lt {l : List Dfn} {i : Nat} (h : isDef l i = true) : i < l.length := by
  unfold isDef at h
  rcases Nat.lt_or_ge i l.length with h' | h'
  · exact h'
  · rw [List.getElem?_eq_none h'] at h; cases h
theorem first_def {l : List Dfn} {s : ByteArray} {d : Nat} (h : firstAt l s = some d) : isDef l d = true ∧ nameAt l d = s := by
  unfold firstAt at h
  rw [List.findIdx?_eq_some_iff_getElem] at h
  obtain ⟨hd, h1, _⟩ := h
  simp only [Bool.and_eq_true, decide_eq_true_eq] at h1
  unfold isDef nameAt
  rw [List.getElem?_eq_getElem hd]
  exact h1
theorem OInv.start (l : List Dfn) : OInv l [] ((List.range l.length).filter fun i => isDef l i && (missL l [] i).isEmpty) where
  nodup := List.nodup_range.filter _
  ready i := by
    simp only [List.nil_append, List.mem_filter, List.mem_range, Bool.and_eq_true, List.isEmpty_iff]
    exact ⟨fun h => h.2, fun h => ⟨isDef_lt h.1, h⟩⟩
  after p i h := by simp at h
theorem After.snoc {l : List Dfn} {o : List Nat} {i : Nat} (h : After l o) (hm : missL l o i = []) : After l (o ++ [i]) := by
  intro p j hj s hs d hd
  rcases Nat.lt_trichotomy p o.length with hp | hp | hp
  · rw [List.getElem?_append_left hp] at hj
    rw [List.take_append_of_le_length (by omega)]
    exact h p j hj s hs d hd
  · subst hp
    simp at hj
    subst hj
    rw [List.take_left']
    · exact miss_nil.1 hm s hs d hd
    · rfl
  · rw [List.getElem?_eq_none (by simp; omega)] at hj
    cases hj
/-- A definition that is not the first of its name is taken: nothing waits for it. -/
theorem OInv.other {l : List Dfn} {o R R' : List Nat} {i : Nat} (h : OInv l o R) (hR : R.Perm (i :: R')) (hn : ∀ s, firstAt l s ≠ some i) : OInv l (o ++ [i]) R' where
  nodup := by
    have h1 := (List.Perm.append_left o hR).nodup_iff.1 h.nodup
    simpa using h1
  ready j := by
    have hm : missL l (o ++ [i]) j = [] ↔ missL l o j = [] := by
      rw [miss_nil, miss_nil]
      constructor
      · intro h1 s hs d hd
        have := h1 s hs d hd
        simp only [List.mem_append, List.mem_singleton] at this
        rcases this with h2 | rfl
        · exact h2
        · exact absurd hd (hn s)
      · intro h1 s hs d hd
        simp [h1 s hs d hd]
    rw [hm, ← h.ready j]
    have := (List.Perm.append_left o hR).mem_iff (a := j)
    rw [this]
    simp
  after := by
    have hi : i ∈ o ++ R := by
      rw [(List.Perm.append_left o hR).mem_iff]; simp
    exact h.after.snoc ((h.ready i).1 hi).2
/-- Those that wait for i alone. -/
def freed (l : List Dfn) (o : List Nat) (i : Nat) : List Nat := (usersOf l (nameAt l i)).filter fun u => (missL l (o ++ [i]) u).isEmpty
theorem OInv.first {l : List Dfn} {o R R' : List Nat} {i : Nat} (h : OInv l o R) (hR : R.Perm (i :: R')) (hf : firstAt l (nameAt l i) = some i) : OInv l (o ++ [i]) (R' ++ freed l o i) := by
  have hi : i ∈ o ++ R := by
    rw [(List.Perm.append_left o hR).mem_iff]; simp
  have hnd := (List.Perm.append_left o hR).nodup_iff.1 h.nodup
  have hio : i ∉ o := fun hio => by
    have := List.nodup_append.1 hnd
    exact this.2.2 i hio i (by simp) rfl
  have hfm : ∀ u, u ∈ freed l o i ↔ (isDef l u = true ∧ nameAt l i ∈ usesAt l u ∧ missL l (o ++ [i]) u = []) := by
    intro u
    unfold freed usersOf
    simp only [List.mem_filter, List.mem_range, Bool.and_eq_true, List.any_eq_true, decide_eq_true_eq, List.isEmpty_iff, exists_eq_right]
    exact ⟨fun ⟨⟨_, h1, h2⟩, h3⟩ => ⟨h1, h2, h3⟩, fun ⟨h1, h2, h3⟩ => ⟨⟨isDef_lt h1, h1, h2⟩, h3⟩⟩
  have hnot : ∀ u ∈ freed l o i, u ∉ o ++ R := by
    intro u hu hm
    have h1 := (hfm u).1 hu
    have h2 := miss_nil.1 ((h.ready u).1 hm).2 _ h1.2.1 _ hf
    exact hio h2
  refine ⟨?_, ?_, h.after.snoc ((h.ready i).1 hi).2⟩
  · have h1 : (o ++ [i] ++ R').Nodup := by simpa using hnd
    rw [← List.append_assoc]
    refine List.nodup_append.2 ⟨h1, ?_, ?_⟩
    · unfold freed usersOf
      exact (List.nodup_range.filter _).filter _
    · rintro a ha b hb rfl
      refine hnot a hb ?_
      rw [(List.Perm.append_left o hR).mem_iff]
      simpa using ha
  · intro j
    have hmem : j ∈ o ++ R ↔ j ∈ o ++ [i] ++ R' := by
      rw [(List.Perm.append_left o hR).mem_iff]; simp
    rw [← List.append_assoc, List.mem_append, ← hmem, hfm, h.ready j]
    constructor
    · rintro (⟨h1, h2⟩ | ⟨h1, _, h3⟩)
      · exact ⟨h1, miss_nil.2 fun s hs d hd => by simp [miss_nil.1 h2 s hs d hd]⟩
      · exact ⟨h1, h3⟩
    · rintro ⟨h1, h2⟩
      by_cases hu : nameAt l i ∈ usesAt l j
      · exact Or.inr ⟨h1, hu, h2⟩
      · refine Or.inl ⟨h1, miss_nil.2 fun s hs d hd => ?_⟩
        have h3 := miss_nil.1 h2 s hs d hd
        simp only [List.mem_append, List.mem_singleton] at h3
        rcases h3 with h3 | rfl
        · exact h3
        · exact absurd hs ((first_def hd).2 ▸ hu)
theorem nodup_le : (a b : List Nat) → a.Nodup → (∀ x ∈ a, x ∈ b) → a.length ≤ b.length
  | [], b, _, _ => by simp
  | x :: a, b, h, hs => by
    rw [List.nodup_cons] at h
    have hx : x ∈ b := hs x (by simp)
    have h1 := nodup_le a (b.erase x) h.2 fun y hy => by
      have hne : y ≠ x := fun e => h.1 (e ▸ hy)
      exact (List.mem_erase_of_ne hne).2 (hs y (by simp [hy]))
    rw [List.length_erase_of_mem hx] at h1
    have := List.length_pos_of_mem hx
    simp only [List.length_cons]
    omega
theorem nodup_full {a b : List Nat} (h : a.Nodup) (hs : ∀ x ∈ a, x ∈ b) (hl : b.length ≤ a.length) : ∀ x ∈ b, x ∈ a := by
  intro x hx
  by_cases hm : x ∈ a
  · exact hm
  · have h1 := nodup_le (x :: a) b (List.nodup_cons.2 ⟨hm, h⟩) (by simpa using ⟨hx, hs⟩)
    simp only [List.length_cons] at h1
    omega
theorem mem_defs {l : List Dfn} {i : Nat} : i ∈ (List.range l.length).filter (isDef l) ↔ isDef l i = true := by
  simp only [List.mem_filter, List.mem_range]
  exact ⟨fun h => h.2, fun h => ⟨isDef_lt h, h⟩⟩
theorem OInv.le {l : List Dfn} {o R : List Nat} (h : OInv l o R) : (o ++ R).length ≤ countOf l :=
  nodup_le _ _ h.nodup fun i hi => mem_defs.2 ((h.ready i).1 hi).1
theorem OInv.done {l : List Dfn} {o : List Nat} (h : OInv l o []) (hc : countOf l ≤ o.length) : Topo l o where
  nodup := by simpa using h.nodup
  all i := by
    have h1 : o.Nodup := by simpa using h.nodup
    have h2 : ∀ x ∈ o, x ∈ (List.range l.length).filter (isDef l) := fun x hx => mem_defs.2 ((h.ready x).1 (by simpa using hx)).1
    have h3 := nodup_full h1 h2 hc
    exact ⟨fun hi => mem_defs.1 (h2 i hi), fun hi => h3 i (mem_defs.2 hi)⟩
  after := h.after
theorem OInv.none {l : List Dfn} {o : List Nat} (h : OInv l o []) (hc : o.length < countOf l) : ¬ ∃ q, Topo l q := by
  rintro ⟨q, hq⟩
  have key : ∀ (p i : Nat), q[p]? = some i → i ∈ o := by
    intro p
    induction p using Nat.strongRecOn with
    | ind p ih =>
      intro i hi
      have h1 : isDef l i = true := (hq.all i).1 (List.mem_of_getElem? hi)
      have h2 : missL l o i = [] := miss_nil.2 fun s hs d hd => by
        obtain ⟨k, hk⟩ := List.mem_iff_getElem?.1 (hq.after p i hi s hs d hd)
        have hkp : k < p := by
          rcases Nat.lt_or_ge k p with h' | h'
          · exact h'
          · rw [List.getElem?_eq_none (by simp; omega)] at hk; cases hk
        rw [List.getElem?_take, if_pos hkp] at hk
        exact ih k hkp d hk
      have := (h.ready i).2 ⟨h1, h2⟩
      simpa using this
  have h3 := nodup_le _ o (List.nodup_range.filter (isDef l)) fun i hi => by
    have := (hq.all i).2 (mem_defs.1 hi)
    obtain ⟨p, hp⟩ := List.mem_iff_getElem?.1 this
    exact key p i hp
  unfold countOf at hc
  exact absurd h3 (by omega)
end Go.Proofs.YtfjlglefodndjaaGreatDoor

namespace Go.Proofs.YtfjlglefodndjaaGreatDoor

/-! What the reference of the checks computes, in plain words. -/
/-- The first error that is not 0 among f 0, .., f (n - 1), with its index. -/
def firstI (f : Nat → Int) : Nat → Nat × Int
  | 0 => (0, 0)
  | n + 1 => if (firstI f n).2 ≠ 0 then firstI f n else if f n ≠ 0 then (n, f n) else (0, 0)
theorem firstI_zero {f : Nat → Int} : (n : Nat) → (∀ j, j < n → f j = 0) → firstI f n = (0, 0)
  | 0, _ => rfl
  | n + 1, h => by rw [firstI, firstI_zero n fun j hj => h j (by omega), h n (by omega)]; simp
theorem firstI_hit {f : Nat → Int} {k : Nat} (hk : f k ≠ 0) (h0 : ∀ j, j < k → f j = 0) : (n : Nat) → k < n → firstI f n = (k, f k)
  | 0, h => by omega
  | n + 1, h => by
    by_cases e : k = n
    · subst e
      rw [firstI, firstI_zero k h0]; simp [hk]
    · rw [firstI, firstI_hit hk h0 n (by omega)]; simp [hk]
theorem firstI_congr {f g : Nat → Int} : (n : Nat) → (∀ j, j < n → f j = g j) → firstI f n = firstI g n
  | 0, _ => rfl
  | n + 1, h => by rw [firstI, firstI, firstI_congr n fun j hj => h j (by omega), h n (by omega)]

/-! Schemas. -/
def attrAt (s : List Attr) (x : ByteArray) : Option Nat := s.findIdx? fun a => decide (a.name = x)
def farB (n : Int) : Bool := !numberB n
def attrErr (a : Attr) : Int :=
  if a.kind = 1 then (if a.lo ≠ 0 ∨ a.hi ≠ 0 then 20 else if a.words.length = 0 then 19 else if 12 < a.words.length then 4 else if a.words.all nameB = false then 6 else if decide a.words.Nodup = false then 8 else 0)
  else if a.kind = 2 then (if 0 < a.words.length then 20 else if a.hi < a.lo ∨ farB a.lo = true ∨ farB a.hi = true then 1 else 0)
  else if a.kind = 3 then (if 0 < a.words.length ∨ a.lo ≠ 0 ∨ a.hi ≠ 0 then 20 else 0) else 11
def attr0 : Attr := ⟨⟨#[]⟩, 0, [], 0, 0⟩
def attrIErr (s : List Attr) (i : Nat) : Int :=
  if nameB (s.getD i attr0).name = false then 6 else if (s.take i).any (fun b => decide (b.name = (s.getD i attr0).name)) = true then 8 else attrErr (s.getD i attr0)
def schemaErr (s : List Attr) : Int := if s.length = 0 then 19 else if 6 < s.length then 4 else (firstI (attrIErr s) s.length).2

/-! Nodes. -/
def defAt (l : List Cla) (x : ByteArray) : Option Nat := l.findIdx? fun c => (c.kind == 1) && decide (c.name = x)
def nodeErr (s : List Attr) (l : List Cla) (op : Int) (name : ByteArray) (words : List ByteArray) (lo hi : Int) : Int :=
  if op = 3 then (match attrAt s name with | none => if (defAt l name).isSome then 0 else 7 | some i => if (s.getD i attr0).kind ≠ 3 then 9 else 0)
  else if op = 4 then (match attrAt s name with | none => 7 | some i => if (s.getD i attr0).kind ≠ 1 then 9 else if words.all (fun x => (s.getD i attr0).words.any fun y => decide (y = x)) = false then 7 else 0)
  else if op = 5 then (match attrAt s name with | none => 7 | some i => if (s.getD i attr0).kind ≠ 2 then 9 else if lo < (s.getD i attr0).lo ∨ (s.getD i attr0).hi < hi then 1 else 0)
  else 0
mutual
def nodesErr (s : List Attr) (l : List Cla) : Ex → Int
  | .mk op name words lo hi args => if nodeErr s l op name words lo hi ≠ 0 then nodeErr s l op name words lo hi else nodesErrL s l args
def nodesErrL (s : List Attr) (l : List Cla) : List Ex → Int
  | [] => 0
  | e :: r => if nodesErr s l e ≠ 0 then nodesErr s l e else nodesErrL s l r
end
theorem nodesErr_eq (s : List Attr) (l : List Cla) (e : Ex) : nodesErr s l e = if nodeErr s l e.op e.name e.words e.lo e.hi ≠ 0 then nodeErr s l e.op e.name e.words e.lo e.hi else nodesErrL s l e.args := by cases e; rw [nodesErr]; rfl
theorem nodesErrL_zero {s : List Attr} {l : List Cla} : (r : List Ex) → (∀ j (h : j < r.length), nodesErr s l r[j] = 0) → nodesErrL s l r = 0
  | [], _ => by rw [nodesErrL]
  | e :: r, h => by
    have h0 := h 0 (by simp)
    simp only [List.getElem_cons_zero] at h0
    rw [nodesErrL, h0]
    simp only [ne_eq, not_true_eq_false, if_false]
    exact nodesErrL_zero r fun j hj => by have := h (j + 1) (by simpa using hj); simpa using this
theorem nodesErrL_hit {s : List Attr} {l : List Cla} : (r : List Ex) → (k : Nat) → (hk : k < r.length) → nodesErr s l r[k] ≠ 0 → (∀ j (h : j < k), nodesErr s l (r[j]'(by omega)) = 0) → nodesErrL s l r = nodesErr s l r[k]
  | [], k, hk, _, _ => by simp at hk
  | e :: r, 0, _, h, _ => by simp only [List.getElem_cons_zero] at h ⊢; rw [nodesErrL, if_pos h]
  | e :: r, k + 1, hk, h, h0 => by
    have h1 := h0 0 (by omega)
    simp only [List.getElem_cons_zero] at h1
    rw [nodesErrL, h1]
    simp only [ne_eq, not_true_eq_false, if_false, List.getElem_cons_succ] at h ⊢
    exact nodesErrL_hit r k (by simpa using hk) h fun j hj => by have := h0 (j + 1) (by omega); simpa using this

/-! Expanded sizes, up to 2001. -/
mutual
def expE (D : ByteArray → Option Nat) : Ex → Nat
  | .mk op name _ _ _ args => min ((if op = 3 then (D name).getD 1 else 1) + expL D args) 2001
def expL (D : ByteArray → Option Nat) : List Ex → Nat
  | [] => 0
  | e :: r => expE D e + expL D r
end
theorem expE_eq (D : ByteArray → Option Nat) (e : Ex) : expE D e = min ((if e.op = 3 then (D e.name).getD 1 else 1) + expL D e.args) 2001 := by cases e; rw [expE]; rfl
theorem expL_take_succ (D : ByteArray → Option Nat) : (l : List Ex) → (k : Nat) → (hk : k < l.length) → expL D (l.take (k + 1)) = expL D (l.take k) + expE D l[k]
  | [], k, hk => by simp at hk
  | e :: r, 0, _ => by simp [expL]
  | e :: r, k + 1, hk => by
    have := expL_take_succ D r k (by simpa using hk)
    simp [expL] at this ⊢
    omega
theorem expL_take_le (D : ByteArray → Option Nat) : (l : List Ex) → (k : Nat) → expL D (l.take k) ≤ expL D l
  | [], k => by simp [expL]
  | e :: r, 0 => by simp [expL]
  | e :: r, k + 1 => by
    have := expL_take_le D r k
    simp [expL]; omega
theorem expE_le (D : ByteArray → Option Nat) (e : Ex) : expE D e ≤ 2001 := by rw [expE_eq]; omega
def cla0 : Cla := ⟨0, ⟨#[]⟩, .mk 0 ⟨#[]⟩ [] 0 0 [], [], 0⟩
/-- f - 1 definitions may be open within each other. -/
def expF (l : List Cla) : Nat → Ex → Nat
  | 0, _ => 2001
  | f + 1, e => expE (fun s => (defAt l s).map fun d => expF l f (l.getD d cla0).cond) e
def expanded (l : List Cla) (e : Ex) : Nat := expF l (l.length + 1) e
theorem expF_le (l : List Cla) (f : Nat) (e : Ex) : expF l f e ≤ 2001 := by cases f with | zero => simp [expF] | succ f => rw [expF]; exact expE_le _ e

/-! Write-backs and clauses. -/
def cntBacks : List Wb → Nat
  | [] => 0
  | .mk _ _ u :: r => 1 + min (cntBacks u) 41 + cntBacks r
def backsB : Nat → List Wb → Bool
  | _, [] => true
  | d, .mk n c u :: r => decide (d ≠ 0) && nameB n && refExprB c && backsB (d - 1) u && backsB d r
def mostOf (kind : Int) : Int := if kind = 5 ∨ kind = 6 ∨ kind = 7 ∨ kind = 10 then 1073741824 else if kind = 8 then 1000000 else 0
def clauseB (c : Cla) : Bool := decide (1 ≤ c.kind) && decide (c.kind ≤ 10) && nameB c.name && refExprB c.cond && (decide (c.unl.length = 0) || ((c.kind == 3) && decide (cntBacks c.unl ≤ 40) && backsB 16 c.unl)) &&
  ((decide (mostOf c.kind = 0) && (c.amount == 0)) || (decide (0 < mostOf c.kind) && decide (1 ≤ c.amount) && decide (c.amount ≤ mostOf c.kind)))
def backsErr (s : List Attr) (l : List Cla) : List Wb → Int
  | [] => 0
  | .mk _ c u :: r => if nodesErr s l c ≠ 0 then nodesErr s l c else if backsErr s l u ≠ 0 then backsErr s l u else backsErr s l r
def backsLarge (l : List Cla) : List Wb → Bool
  | [] => false
  | .mk _ c u :: r => decide (2000 < expanded l c) || backsLarge l u || backsLarge l r
def findAt (l : List Cla) (x : ByteArray) : Option Nat := l.findIdx? fun c => decide (c.name = x)
def claErr (s : List Attr) (l : List Cla) (i : Nat) : Int :=
  if clauseB (l.getD i cla0) = false then 5 else if (findAt l (l.getD i cla0).name).getD 0 < i then 8 else if (attrAt s (l.getD i cla0).name).isSome then 8 else
  if nodesErr s l (l.getD i cla0).cond ≠ 0 then nodesErr s l (l.getD i cla0).cond else backsErr s l (l.getD i cla0).unl
def claLarge (l : List Cla) (i : Nat) : Int := if 2000 < expanded l (l.getD i cla0).cond ∨ backsLarge l (l.getD i cla0).unl = true then 4 else 0
def Cla.dfn (c : Cla) : Dfn := ⟨c.kind == 1, c.name, refNames (namesE c.cond)⟩
/-- There is an order of the definitions. -/
def Sorts (l : List Dfn) : Prop := ∃ o, Topo l o
open Classical in
noncomputable def clausesErr (s : List Attr) (l : List Cla) : Nat × Int :=
  if schemaErr s ≠ 0 then (0, schemaErr s) else if 100 < l.length then (0, 4) else if (firstI (claErr s l) l.length).2 ≠ 0 then firstI (claErr s l) l.length else
  if ¬ Sorts (l.map Cla.dfn) then (0, 10) else firstI (claLarge l) l.length
end Go.Proofs.YtfjlglefodndjaaGreatDoor

namespace Go.Proofs.YtfjlglefodndjaaGreatDoor
open Go.RowKit

/-! The reference's look-ups. -/
theorem IsSchema.parts {w : World} {l : List Attr} {v : Value} (h : IsSchema w l v) : ∃ a n c, v = .agg #[.slice a n c] ∧ n = l.length ∧ n ≤ c ∧ OkAddr a c ∧ ∀ i (h : i < l.length), ∃ b off, a = some ⟨b, off, none⟩ ∧ AttrAt w l[i] b (off + i * 5) := h
theorem IsSchema.ext {w w' : World} {l : List Attr} {v : Value} (h : IsSchema w l v) (he : Ext w w') : IsSchema w' l v := h.mono he.sub
def optV (o : Option Nat) : Value := .tuple #[.int .i64 (o.getD 0 : Nat), .bool o.isSome]
theorem find_hit {α : Type} {p : α → Bool} {l : List α} {k : Nat} (hk : k < l.length) (h1 : p l[k] = true) (h2 : ∀ j (h : j < l.length), j < k → p l[j] = false) : l.findIdx? p = some k := by
  rw [List.findIdx?_eq_some_iff_getElem]
  exact ⟨hk, h1, fun j hj => by rw [h2 j (by omega) hj]; simp⟩
theorem find_miss {α : Type} {p : α → Bool} {l : List α} (h : ∀ j (h : j < l.length), p l[j] = false) : l.findIdx? p = none := by
  rw [List.findIdx?_eq_none_iff]
  intro x hx
  obtain ⟨i, hi, rfl⟩ := List.mem_iff_getElem.1 hx
  simp [h i hi]
theorem blk1 {w : World} {b : Nat} {v0 : Value} {t : TypeId} (h : w.heap[b]? = some (.cells #[v0] t (0, 0))) : w.cell? ⟨b, 0, none⟩ = some v0 ∧ (∀ j, w.frozen? ⟨b, j, none⟩ = false) := ⟨blk_cell h 0, fun j => blk_free h j⟩
theorem dec_of_beq {a b : ByteArray} {u : Bool} (h : (a.toList == b.toList) = u) : decide (a = b) = u := by rw [← toList_beq]; exact h
set_option maxRecDepth 100000 in
set_option maxHeartbeats 1000000 in
theorem rIndex_calls (s : List Attr) (v : Value) (x : ByteArray) (w : World) (hs : IsSchema w s v) (hl : s.length ≤ 1000000000000000) :
    Calls Tryz.prog 35 #[v, .string x] w (GivesE (optV (attrAt s x)) w) := by
  obtain ⟨a, n, c, rfl, hn, hnc, hoa, hat⟩ := hs.parts
  have HS := Lib.hid hs
  have HN := Lib.hid hn
  have hn2 : n ≤ 1000000000000000 := by omega
  clear hs hn hat hnc hoa
  go_enter Tryz.func35, Tryz.ntmps35
  go_wp2_with fail
  go_loopw [6] (fun t wr => ∃ k : Nat, t = .int .i64 k ∧ k ≤ n ∧ (∀ j (h : j < s.length), j < k → decide (s[j].name = x) = false) ∧ wr.heap[w.heap.size]? = some (.cells #[.slice a n c] 24 (0, 0)) ∧ Ext w wr) (fun t _ => n - (intOf t).toNat)
  case atStart => exact ⟨0, rfl, by omega, fun j _ h => by omega, alloc_new w _, (Ext.refl w).alloc _⟩
  case round =>
    obtain ⟨k, rfl, hk, hno, hbx, hx⟩ := hrel
    have HNO := Lib.hid hno
    have HBX := Lib.hid hbx
    have HX := Lib.hid hx
    obtain ⟨bb0, bbf⟩ := blk1 hbx
    have hlt0 := blk_lt hbx
    clear hno hbx hx
    by_cases hkn : k < n
    · have hks : k < s.length := by have := HN.out; omega
      obtain ⟨a', n', c', e', hx1, hx2, hx3, hat⟩ := (HS.out.ext HX.out).parts
      simp only [Value.agg.injEq, Array.mk.injEq, List.cons.injEq, Value.slice.injEq, and_true] at e'
      obtain ⟨rfl, rfl, rfl⟩ := e'
      clear hx1 hx2 hx3
      obtain ⟨b, off, rfl, aw, nw, cw, h0, h1, h2, h3, h4, h5⟩ := hat k hks
      have t1 : decide ((k : Int) < (n : Int)) = true := decide_eq_true (by omega)
      cases he : (s[k].name.toList == x.toList)
      · have HE := Lib.hid (dec_of_beq he)
        clear hat h5
        go_wp2_with fail
        go_roundw
        case rel =>
          refine ⟨k + 1, by go_num, by omega, fun j hj hjk => ?_, HBX.out, HX.out⟩
          by_cases e : j = k
          · subst e; exact HE.out
          · exact HNO.out j hj (by omega)
        case measure => simp [intOf]; omega
      · have HF := Lib.hid (show attrAt s x = some k from find_hit hks (dec_of_beq he) HNO.out)
        clear hat h5
        go_wp2_with fail
        go_ret2
        exact ⟨by rw [optV, HF.out]; rfl, HX.out⟩
    · have t1 : decide ((k : Int) < (n : Int)) = false := decide_eq_false (by omega)
      have HF := Lib.hid (show attrAt s x = none from find_miss fun j hj => HNO.out j hj (by have := HN.out; omega))
      go_wp2_with fail
      go_ret2
      exact ⟨by rw [optV, HF.out]; rfl, HX.out⟩
set_option maxRecDepth 100000 in
set_option maxHeartbeats 1000000 in
theorem rFind_calls (l : List Cla) (a : Option Addr) (n c : Nat) (x : ByteArray) (w : World) (hs : IsClas w l a n c) (hl : n ≤ 1000000000000000) :
    Calls Tryz.prog 34 #[.slice a n c, .string x] w (Gives (optV (findAt l x)) w) := by
  have HS := Lib.hid hs
  have HN := Lib.hid hs.len
  clear hs
  go_enter Tryz.func34, Tryz.ntmps34
  go_wp2_with fail
  go_loop [6] (fun t => ∃ k : Nat, t = .int .i64 k ∧ k ≤ n ∧ (∀ j (h : j < l.length), j < k → decide (l[j].name = x) = false)) (fun t => n - (intOf t).toNat)
  case atStart => exact ⟨0, rfl, by omega, fun j _ h => by omega⟩
  case round =>
    obtain ⟨k, rfl, hk, hno⟩ := hrel
    have HNO := Lib.hid hno
    clear hno
    by_cases hkn : k < n
    · have hks : k < l.length := by have := HN.out; omega
      obtain ⟨b, off, v, rfl, hcla, hrow⟩ := HS.out.at hks
      obtain ⟨c0, c1, -, -, -, -, -, -, -, -⟩ := hrow.ten
      have hq2 := hcla.2.1
      rw [hq2] at c1
      have t1 : decide ((k : Int) < (n : Int)) = true := decide_eq_true (by omega)
      cases he : (l[k].name.toList == x.toList)
      · have HE := Lib.hid (dec_of_beq he)
        clear hcla hrow hq2 c0
        go_wp2_with fail
        go_round
        case rel =>
          refine ⟨k + 1, by go_num, by omega, fun j hj hjk => ?_⟩
          by_cases e : j = k
          · subst e; exact HE.out
          · exact HNO.out j hj (by omega)
        case measure => simp [intOf]; omega
      · have HF := Lib.hid (show findAt l x = some k from find_hit hks (dec_of_beq he) HNO.out)
        clear hcla hrow hq2 c0
        go_wp2_with fail
        go_ret2
        exact ⟨by rw [optV, HF.out]; rfl, rfl⟩
    · have t1 : decide ((k : Int) < (n : Int)) = false := decide_eq_false (by omega)
      have HF := Lib.hid (show findAt l x = none from find_miss fun j hj => HNO.out j hj (by have := HN.out; omega))
      go_wp2_with fail
      go_ret2
      exact ⟨by rw [optV, HF.out]; rfl, rfl⟩
set_option maxRecDepth 100000 in
set_option maxHeartbeats 1000000 in
theorem rDef_calls (l : List Cla) (a : Option Addr) (n c : Nat) (x : ByteArray) (w : World) (hs : IsClas w l a n c) (hl : n ≤ 1000000000000000) :
    Calls Tryz.prog 66 #[.slice a n c, .string x] w (Gives (optV (defAt l x)) w) := by
  have HS := Lib.hid hs
  have HN := Lib.hid hs.len
  clear hs
  go_enter Tryz.func66, Tryz.ntmps66
  go_wp2_with fail
  go_loop [6] (fun t => ∃ k : Nat, t = .int .i64 k ∧ k ≤ n ∧ (∀ j (h : j < l.length), j < k → ((l[j].kind == 1) && decide (l[j].name = x)) = false)) (fun t => n - (intOf t).toNat)
  case atStart => exact ⟨0, rfl, by omega, fun j _ h => by omega⟩
  case round =>
    obtain ⟨k, rfl, hk, hno⟩ := hrel
    have HNO := Lib.hid hno
    clear hno
    by_cases hkn : k < n
    · have hks : k < l.length := by have := HN.out; omega
      obtain ⟨b, off, v, rfl, hcla, hrow⟩ := HS.out.at hks
      obtain ⟨c0, c1, -, -, -, -, -, -, -, -⟩ := hrow.ten
      have hq1 := hcla.1
      have hq2 := hcla.2.1
      rw [hq2] at c1
      rw [hq1] at c0
      have t1 : decide ((k : Int) < (n : Int)) = true := decide_eq_true (by omega)
      cases hkd : (l[k].kind == 1)
      · have HE := Lib.hid (show ((l[k].kind == 1) && decide (l[k].name = x)) = false by rw [hkd]; rfl)
        clear hcla hrow hq2 hq1
        go_wp2_with fail
        go_round
        case rel =>
          refine ⟨k + 1, by go_num, by omega, fun j hj hjk => ?_⟩
          by_cases e : j = k
          · subst e; exact HE.out
          · exact HNO.out j hj (by omega)
        case measure => simp [intOf]; omega
      · cases he : (l[k].name.toList == x.toList)
        · have HE := Lib.hid (show ((l[k].kind == 1) && decide (l[k].name = x)) = false by rw [hkd, dec_of_beq he]; rfl)
          clear hcla hrow hq2 hq1
          go_wp2_with fail
          go_round
          case rel =>
            refine ⟨k + 1, by go_num, by omega, fun j hj hjk => ?_⟩
            by_cases e : j = k
            · subst e; exact HE.out
            · exact HNO.out j hj (by omega)
          case measure => simp [intOf]; omega
        · have HF := Lib.hid (show defAt l x = some k from find_hit hks (by rw [hkd, dec_of_beq he]; rfl) HNO.out)
          clear hcla hrow hq2 hq1
          go_wp2_with fail
          go_ret2
          exact ⟨by rw [optV, HF.out]; rfl, rfl⟩
    · have t1 : decide ((k : Int) < (n : Int)) = false := decide_eq_false (by omega)
      have HF := Lib.hid (show defAt l x = none from find_miss fun j hj => HNO.out j hj (by have := HN.out; omega))
      go_wp2_with fail
      go_ret2
      exact ⟨by rw [optV, HF.out]; rfl, rfl⟩
set_option maxRecDepth 100000 in
set_option maxHeartbeats 1000000 in
theorem rWithin_calls (l : List ByteArray) (a : Option Addr) (n c : Nat) (x : ByteArray) (w : World) (hs : IsStrs w l a n c) (hl : n ≤ 1000000000000000) :
    Calls Tryz.prog 86 #[.slice a n c, .string x] w (Gives (.bool (l.any fun y => decide (y = x))) w) := by
  have HS := Lib.hid hs
  have HN := Lib.hid hs.1
  clear hs
  go_enter Tryz.func86, Tryz.ntmps86
  go_wp2_with fail
  go_loop [5] (fun t => ∃ k : Nat, t = .int .i64 k ∧ k ≤ n ∧ (∀ j (h : j < l.length), j < k → decide (l[j] = x) = false)) (fun t => n - (intOf t).toNat)
  case atStart => exact ⟨0, rfl, by omega, fun j _ h => by omega⟩
  case round =>
    obtain ⟨k, rfl, hk, hno⟩ := hrel
    have HNO := Lib.hid hno
    clear hno
    by_cases hkn : k < n
    · have hks : k < l.length := by have := HN.out; omega
      obtain ⟨b, off, rfl, c1⟩ := HS.out.2.2.2 k hks
      have t1 : decide ((k : Int) < (n : Int)) = true := decide_eq_true (by omega)
      cases he : (l[k].toList == x.toList)
      · have HE := Lib.hid (dec_of_beq he)
        go_wp2_with fail
        go_round
        case rel =>
          refine ⟨k + 1, by go_num, by omega, fun j hj hjk => ?_⟩
          by_cases e : j = k
          · subst e; exact HE.out
          · exact HNO.out j hj (by omega)
        case measure => simp [intOf]; omega
      · have HF := Lib.hid (show (l.any fun y => decide (y = x)) = true from List.any_eq_true.2 ⟨l[k], List.getElem_mem hks, dec_of_beq he⟩)
        go_wp2_with fail
        go_ret
        exact gives_bool (by rw [HF.out])
    · have t1 : decide ((k : Int) < (n : Int)) = false := decide_eq_false (by omega)
      have HF := Lib.hid (show (l.any fun y => decide (y = x)) = false by
        rw [List.any_eq_false]
        intro y hy
        obtain ⟨j, hj, rfl⟩ := List.mem_iff_getElem.1 hy
        have := HNO.out j hj (by have := HN.out; omega)
        simp [this])
      go_wp2_with fail
      go_ret
      exact gives_bool (by rw [HF.out])
theorem rMost_calls (k : Int) (w : World) : Calls Tryz.prog 64 #[.int .i64 k] w (Gives (.int .i64 (mostOf k)) w) := by
  by_cases h5 : k = 5
  · subst h5
    go_enter Tryz.func64, Tryz.ntmps64
    go_wp2_with fail
    go_ret
    exact ⟨rfl, rfl⟩
  · by_cases h6 : k = 6
    · subst h6
      go_enter Tryz.func64, Tryz.ntmps64
      go_wp2_with fail
      go_ret
      exact ⟨rfl, rfl⟩
    · by_cases h7 : k = 7
      · subst h7
        go_enter Tryz.func64, Tryz.ntmps64
        go_wp2_with fail
        go_ret
        exact ⟨rfl, rfl⟩
      · by_cases h10 : k = 10
        · subst h10
          go_enter Tryz.func64, Tryz.ntmps64
          go_wp2_with fail
          go_ret
          exact ⟨rfl, rfl⟩
        · by_cases h8 : k = 8
          · subst h8
            go_enter Tryz.func64, Tryz.ntmps64
            go_wp2_with fail
            go_ret
            exact ⟨rfl, rfl⟩
          · have e5 : (k == 5) = false := by simp [h5]
            have e6 : (k == 6) = false := by simp [h6]
            have e7 : (k == 7) = false := by simp [h7]
            have e10 : (k == 10) = false := by simp [h10]
            have e8 : (k == 8) = false := by simp [h8]
            have HM := Lib.hid (show mostOf k = 0 by unfold mostOf; rw [if_neg (by omega), if_neg (by omega)])
            go_enter Tryz.func64, Tryz.ntmps64
            go_wp2_with fail
            go_ret
            exact ⟨by rw [HM.out]; rfl, rfl⟩
end Go.Proofs.YtfjlglefodndjaaGreatDoor

namespace Go.Proofs.YtfjlglefodndjaaGreatDoor
open Go.RowKit

/-! The program's look-ups: schema.Index, wording.Find. -/
set_option maxRecDepth 100000 in
set_option maxHeartbeats 1000000 in
theorem sIndex_calls (s : List Attr) (v : Value) (x : ByteArray) (w : World) (hs : IsSchema w s v) (hl : s.length ≤ 1000000000000000) :
    Calls Tryz.prog 50 #[v, .string x] w (GivesE (optV (attrAt s x)) w) := by
  obtain ⟨a, n, c, rfl, hn, hnc, hoa, hat⟩ := hs.parts
  have HS := Lib.hid hs
  have HN := Lib.hid hn
  have hn2 : n ≤ 1000000000000000 := by omega
  clear hs hn hat hnc hoa
  go_enter Tryz.func50, Tryz.ntmps50
  go_wp2_with fail
  go_loopw [11] (fun t wr => ∃ k : Nat, t = .int .i64 k ∧ k ≤ n ∧ (∀ j (h : j < s.length), j < k → decide (s[j].name = x) = false) ∧ Ext w wr) (fun t _ => n - (intOf t).toNat)
  case atStart => exact ⟨0, rfl, by omega, fun j _ h => by omega, (Ext.refl w).alloc _⟩
  case round =>
    obtain ⟨k, rfl, hk, hno, hx⟩ := hrel
    have HNO := Lib.hid hno
    have HX := Lib.hid hx
    clear hno hx
    by_cases hkn : k < n
    · have hks : k < s.length := by have := HN.out; omega
      obtain ⟨a', n', c', e', hx1, hx2, hx3, hat⟩ := (HS.out.ext HX.out).parts
      simp only [Value.agg.injEq, Array.mk.injEq, List.cons.injEq, Value.slice.injEq, and_true] at e'
      obtain ⟨rfl, rfl, rfl⟩ := e'
      clear hx1 hx2 hx3
      obtain ⟨b, off, rfl, aw, nw, cw, h0, h1, h2, h3, h4, h5⟩ := hat k hks
      have t1 : decide ((k : Int) < (n : Int)) = true := decide_eq_true (by omega)
      cases he : (s[k].name.toList == x.toList)
      · have HE := Lib.hid (dec_of_beq he)
        clear hat h5
        go_wp2_with fail
        go_roundw
        case rel =>
          refine ⟨k + 1, by go_num, by omega, fun j hj hjk => ?_, HX.out.alloc _⟩
          by_cases e : j = k
          · subst e; exact HE.out
          · exact HNO.out j hj (by omega)
        case measure => simp [intOf]; omega
      · have HF := Lib.hid (show attrAt s x = some k from find_hit hks (dec_of_beq he) HNO.out)
        clear hat h5
        go_wp2_with fail
        go_ret2
        exact ⟨by rw [optV, HF.out]; rfl, HX.out.alloc _⟩
    · have t1 : decide ((k : Int) < (n : Int)) = false := decide_eq_false (by omega)
      have HF := Lib.hid (show attrAt s x = none from find_miss fun j hj => HNO.out j hj (by have := HN.out; omega))
      go_wp2_with fail
      go_ret2
      exact ⟨by rw [optV, HF.out]; rfl, HX.out⟩
set_option maxRecDepth 100000 in
set_option maxHeartbeats 1000000 in
theorem sFind_calls (l : List Cla) (a : Option Addr) (n c : Nat) (x : ByteArray) (w : World) (hs : IsClas w l a n c) (hl : n ≤ 1000000000000000) :
    Calls Tryz.prog 60 #[.slice a n c, .string x] w (GivesE (optV (findAt l x)) w) := by
  have HS := Lib.hid hs
  have HN := Lib.hid hs.len
  clear hs
  go_enter Tryz.func60, Tryz.ntmps60
  go_wp2_with fail
  go_loopw [10] (fun t wr => ∃ k : Nat, t = .int .i64 k ∧ k ≤ n ∧ (∀ j (h : j < l.length), j < k → decide (l[j].name = x) = false) ∧ Ext w wr) (fun t _ => n - (intOf t).toNat)
  case atStart => exact ⟨0, rfl, by omega, fun j _ h => by omega, Ext.refl _⟩
  case round =>
    obtain ⟨k, rfl, hk, hno, hx⟩ := hrel
    have HNO := Lib.hid hno
    have HX := Lib.hid hx
    clear hno hx
    by_cases hkn : k < n
    · have hks : k < l.length := by have := HN.out; omega
      obtain ⟨b, off, v, rfl, hcla, hrow⟩ := (HS.out.ext HX.out).at hks
      obtain ⟨c0, c1, c2, c3, c4, c5, c6, c7, c8, c9⟩ := hrow.ten
      have hq2 := hcla.2.1
      rw [hq2] at c1
      have t1 : decide ((k : Int) < (n : Int)) = true := decide_eq_true (by omega)
      cases he : (l[k].name.toList == x.toList)
      · have HE := Lib.hid (dec_of_beq he)
        clear hcla hrow hq2
        go_wp2_with fail
        go_roundw
        case rel =>
          refine ⟨k + 1, by go_num, by omega, fun j hj hjk => ?_, HX.out.alloc _⟩
          by_cases e : j = k
          · subst e; exact HE.out
          · exact HNO.out j hj (by omega)
        case measure => simp [intOf]; omega
      · have HF := Lib.hid (show findAt l x = some k from find_hit hks (dec_of_beq he) HNO.out)
        clear hcla hrow hq2
        go_wp2_with fail
        go_ret2
        exact ⟨by rw [optV, HF.out]; rfl, HX.out.alloc _⟩
    · have t1 : decide ((k : Int) < (n : Int)) = false := decide_eq_false (by omega)
      have HF := Lib.hid (show findAt l x = none from find_miss fun j hj => HNO.out j hj (by have := HN.out; omega))
      go_wp2_with fail
      go_ret2
      exact ⟨by rw [optV, HF.out]; rfl, HX.out⟩
end Go.Proofs.YtfjlglefodndjaaGreatDoor
