/-
  Texts of the claim, joined: RowsOf, SIdx, Plain1, SWb, RApp, RSom, Ch, Ch2.
-/
import Derived.Test.YtefjomofjejklaaGreatDoorDv12
namespace Go.Proofs.YtefjomofjejklaaGreatDoor
set_option maxRecDepth 100000
set_option maxHeartbeats 32000000
open Go.RowKit
theorem length_flatMap_of {α : Type} (f : α -> List Value) (size : Nat) (hf : ∀ x, (f x).length = size) : (l : List α) -> (l.flatMap f).length = l.length * size
 | [] => by simp
 | x :: r => by simp only [List.flatMap_cons, List.length_append, hf, length_flatMap_of f size hf r, List.length_cons, Nat.succ_mul]; omega
theorem sIndex_calls (s : List Attr) (v : Value) (x : BA) (w : World) (hs : IsSchema w s v) (hl : s.length <= 1000000000000000) :
  Calls Tryz.prog 104 #[v, .string x] w (GivesE (optV (attrAt s x)) w) := by
 obtain ⟨a, n, c, rfl, hn, hnc, hoa, hat⟩ := hs.parts
 have HS := hI hs
 have HN := hI hn
 have hn2 : n <= 1000000000000000 := by omega
 clear hs hn hat hnc hoa
 go_enter Tryz.func104, Tryz.ntmps104
 go_wp2_with fail
 go_loopw [11] (fun t wr => ∃ k : Nat, t = .int .i64 k /\ k <= n /\ (∀ j (h : j < s.length), j < k -> decide (s[j].name = x) = false) /\ Ext w wr) (fun t _ => n - (intOf t).toNat)
 case atStart => exact ⟨0, rfl, by omega, fun j _ h => by omega, (Ext.refl w).alloc _⟩
 case round =>
  obtain ⟨k, rfl, hk, hno, hx⟩ := hrel
  have HNO := hI hno
  have HX := hI hx
  clear hno hx
  by_cases hkn : k < n
  ·have hks : k < s.length := by have := HN.out; omega
   obtain ⟨a', n', c', e', hx1, hx2, hx3, hat⟩ := (HS.out.ext HX.out).parts
   simp only [Value.agg.injEq, Array.mk.injEq, List.cons.injEq, Value.slice.injEq, and_true] at e'
   obtain ⟨rfl, rfl, rfl⟩ := e'
   clear hx1 hx2 hx3
   obtain ⟨b, off, rfl, aw, nw, cw, h0, h1, h2, h3, h4, h5⟩ := hat k hks
   have t1 : decide ((k : Int) < (n : Int)) = true := decide_eq_true (by omega)
   cases he : (s[k].name.toList == x.toList)
   ·have HE := hI (dec_of_beq he)
    clear hat h5
    go_wp2_with fail
    go_roundw
    case rel =>
     refine ⟨k + 1, by go_num, by omega, fun j hj hjk => ?_, HX.out.alloc _⟩
     by_cases e : j = k
     ·subst e; exact HE.out
     exact HNO.out j hj (by omega)
    case measure => simp [intOf]; omega
   have HF := hI (show attrAt s x = some k from find_hit hks (dec_of_beq he) HNO.out)
   clear hat h5
   go_wp2_with fail
   go_ret2
   exact ⟨by rw [optV, HF.out]; rfl, HX.out.alloc _⟩
  have t1 : decide ((k : Int) < (n : Int)) = false := decide_eq_false (by omega)
  have HF := hI (show attrAt s x = none from find_miss fun j hj => HNO.out j hj (by have := HN.out; omega))
  go_wp2_with fail
  go_ret2
  exact ⟨by rw [optV, HF.out]; rfl, HX.out⟩
theorem sFind_calls (l : List Cla) (a : OA) (n c : Nat) (x : BA) (w : World) (hs : IsClas w l a n c) (hl : n <= 1000000000000000) :
  Calls Tryz.prog 107 #[.slice a n c, .string x] w (GivesE (optV (findAt l x)) w) := by
 have HS := hI hs
 have HN := hI hs.len
 clear hs
 go_enter Tryz.func107, Tryz.ntmps107
 go_wp2_with fail
 go_loopw [10] (fun t wr => ∃ k : Nat, t = .int .i64 k /\ k <= n /\ (∀ j (h : j < l.length), j < k -> decide (l[j].name = x) = false) /\ Ext w wr) (fun t _ => n - (intOf t).toNat)
 case atStart => exact ⟨0, rfl, by omega, fun j _ h => by omega, Ext.refl _⟩
 case round =>
  obtain ⟨k, rfl, hk, hno, hx⟩ := hrel
  have HNO := hI hno
  have HX := hI hx
  clear hno hx
  by_cases hkn : k < n
  ·have hks : k < l.length := by have := HN.out; omega
   obtain ⟨b, off, v, rfl, hcla, hrow⟩ := (HS.out.ext HX.out).at hks
   obtain ⟨c0, c1, c2, c3, c4, c5, c6, c7, c8, c9⟩ := hrow.ten
   have hq2 := hcla.2.1
   rw [hq2] at c1
   have t1 : decide ((k : Int) < (n : Int)) = true := decide_eq_true (by omega)
   cases he : (l[k].name.toList == x.toList)
   ·have HE := hI (dec_of_beq he)
    clear hcla hrow hq2
    go_wp2_with fail
    go_roundw
    case rel =>
     refine ⟨k + 1, by go_num, by omega, fun j hj hjk => ?_, HX.out.alloc _⟩
     by_cases e : j = k
     ·subst e; exact HE.out
     exact HNO.out j hj (by omega)
    case measure => simp [intOf]; omega
   have HF := hI (show findAt l x = some k from find_hit hks (dec_of_beq he) HNO.out)
   clear hcla hrow hq2
   go_wp2_with fail
   go_ret2
   exact ⟨by rw [optV, HF.out]; rfl, HX.out.alloc _⟩
  have t1 : decide ((k : Int) < (n : Int)) = false := decide_eq_false (by omega)
  have HF := hI (show findAt l x = none from find_miss fun j hj => HNO.out j hj (by have := HN.out; omega))
  go_wp2_with fail
  go_ret2
  exact ⟨by rw [optV, HF.out]; rfl, HX.out⟩
mutual
def pNodes : Ex -> Bool
 | .mk op name words lo hi args => nodeB (.mk op name words lo hi args) && pNodesAll args
def pNodesAll : List Ex -> Bool
 | [] => true
 | e :: r => pNodes e && pNodesAll r
end
mutual
theorem validF_spec : (e : Ex) -> (d n : Int) -> n <= 300 -> d <= 17 -> ((validF e d n).1 = true ↔ (d + e.depth <= 17 /\ n + e.size <= 300 /\ pNodes e = true)) /\ ((validF e d n).1 = true -> (validF e d n).2 = n + e.size)
 | .mk op name words lo hi args, d, n, hn, hd => by
  have hs : (Ex.mk op name words lo hi args).size = 1 + sizes args := by simp [Ex.size]
  have hp : (Ex.mk op name words lo hi args).depth = depths args + 1 := by simp [Ex.depth]
  rw [validF, hs, hp, pNodes]
  by_cases hc : 300 < n + 1 \/ 16 < d \/ nodeB (.mk op name words lo hi args) = false
  ·rw [if_pos hc]
   refine ⟨⟨fun h => by simp at h, fun ⟨h1, h2, h3⟩ => ?_⟩, fun h => by simp at h⟩
   rcases hc with hc | hc | hc
   ·omega
   ·omega
   rw [hc] at h3; simp at h3
  rw [if_neg hc]
  have hnb : nodeB (.mk op name words lo hi args) = true := by
   cases hh : nodeB (.mk op name words lo hi args)
   ·exact absurd (Or.inr (Or.inr hh)) hc
   rfl
  obtain ⟨h1, h2⟩ := validsF_spec args (d + 1) (n + 1) (by omega) (by omega)
  rw [hnb, Bool.true_and]
  refine ⟨h1.trans ⟨fun ⟨a, b, c⟩ => ⟨by omega, by omega, c⟩, fun ⟨a, b, c⟩ => ⟨by omega, by omega, c⟩⟩, fun h => by have := h2 h; omega⟩
theorem validsF_spec : (l : List Ex) -> (d n : Int) -> n <= 300 -> d <= 17 -> ((validsF l d n).1 = true ↔ (d + depths l <= 17 /\ n + sizes l <= 300 /\ pNodesAll l = true)) /\ ((validsF l d n).1 = true -> (validsF l d n).2 = n + sizes l)
 | [], d, n, hn, hd => by simp [validsF, depths, sizes, pNodesAll]; omega
 | e :: r, d, n, hn, hd => by
  obtain ⟨h1, h2⟩ := validF_spec e d n hn hd
  rw [validsF, depths, sizes, pNodesAll]
  by_cases hv : (validF e d n).1 = true
  ·rw [if_pos hv]
   have e2 := h2 hv
   obtain ⟨a1, a2, a3⟩ := h1.1 hv
   obtain ⟨h3, h4⟩ := validsF_spec r d (validF e d n).2 (by omega) hd
   refine ⟨h3.trans ⟨fun ⟨a, b, c⟩ => ⟨by omega, by omega, by rw [a3, c]; rfl⟩, fun ⟨a, b, c⟩ => ⟨by omega, by omega, by rw [a3] at c; simpa using c⟩⟩, fun h => by have := h4 h; omega⟩
  rw [if_neg hv]
  refine ⟨⟨fun h => by simp at h, fun ⟨a, b, c⟩ => absurd (h1.2 ⟨by omega, by omega, ?_⟩) hv⟩, fun h => by simp at h⟩
  rw [Bool.and_eq_true] at c; exact c.1
end
theorem nodeB_ref (e : Ex) (h : e.args.length <= 300) : nodeB e = refNodeB e := by
 obtain ⟨op, name, words, lo, hi, args⟩ := e
 simp only [nodeB, refNodeB, refNode, Ex.op, Ex.name, Ex.words, Ex.lo, Ex.hi, Ex.args, wordsB] at *
 by_cases h1 : 1 <= op /\ op <= 8
 ·have hk : op = 1 \/ op = 2 \/ op = 3 \/ op = 4 \/ op = 5 \/ op = 6 \/ op = 7 \/ op = 8 := by omega
  have hw : words.isEmpty = decide (words.length = 0) := by cases words <;> simp
  have hw2 : (words.length != 0) = decide (1 <= words.length) := by cases words <;> simp
  rw [hw, hw2]
  rcases hk with rfl | rfl | rfl | rfl | rfl | rfl | rfl | rfl
  all_goals
   simp only [show ((1 : Int).toNat) = 1 from rfl, show ((2 : Int).toNat) = 2 from rfl, show ((3 : Int).toNat) = 3 from rfl, show ((4 : Int).toNat) = 4 from rfl, show ((5 : Int).toNat) = 5 from rfl, show ((6 : Int).toNat) = 6 from rfl, show ((7 : Int).toNat) = 7 from rfl, show ((8 : Int).toNat) = 8 from rfl, opLeast, opMost, opNamed]
   rw [Bool.eq_iff_iff]
   simp
   try grind
 simp [h1]
mutual
theorem pNodes_ref : (e : Ex) -> e.size <= 300 -> pNodes e = nodesB e
 | .mk op name words lo hi args, h => by
  have hs : (Ex.mk op name words lo hi args).size = 1 + sizes args := by simp [Ex.size]
  have hl := length_le_sizes args
  rw [pNodes, nodesB, nodeB_ref _ (by simp only [Ex.args]; omega), pNodesAll_ref args (by omega)]
theorem pNodesAll_ref : (l : List Ex) -> sizes l <= 300 -> pNodesAll l = nodesAll l
 | [], _ => by simp [pNodesAll, nodesAll]
 | e :: r, h => by
  rw [sizes] at h
  rw [pNodesAll, nodesAll, pNodes_ref e (by omega), pNodesAll_ref r (by omega)]
end
theorem validB_ref (e : Ex) : validB e = refExprB e := by
 unfold validB refExprB
 have h := (validF_spec e 1 0 (by omega) (by omega)).1
 have e1 : refSize e <= 300 ↔ e.size <= 300 := by unfold refSize; omega
 rw [Bool.eq_iff_iff, h, Bool.and_eq_true, Bool.and_eq_true]
 constructor
 ·rintro ⟨a, b, c⟩
  refine ⟨⟨?_, ?_⟩, by rw [<- pNodes_ref e (by omega)]; exact c⟩
  ·rw [decide_eq_false (by omega)]; rfl
  rw [decide_eq_true_eq, e1]; omega
 rintro ⟨⟨a, b⟩, c⟩
 have a2 : ¬ 16 < e.depth := fun h => by rw [decide_eq_true h] at a; cases a
 have b2 := e1.1 (of_decide_eq_true b)
 exact ⟨by omega, by omega, by rw [pNodes_ref e (by omega)]; exact c⟩
theorem wbN_take_succ : (l : List Wb) -> (k : Nat) -> (hk : k < l.length) -> wbN (l.take (k + 1)) = wbN (l.take k) + 1 + wbN l[k].unl
 | [], k, hk => by simp at hk
 | .mk n c u :: r, 0, _ => by simp [wbN, Wb.unl]
 | .mk n c u :: r, k + 1, hk => by
  have := wbN_take_succ r k (by simpa using hk)
  simp [wbN] at this ⊢
  omega
theorem wbN_take_le : (l : List Wb) -> (k : Nat) -> wbN (l.take k) <= wbN l
 | [], k => by simp [wbN]
 | .mk n c u :: r, 0 => by simp [wbN]
 | .mk n c u :: r, k + 1 => by have := wbN_take_le r k; simp [wbN]; omega
def WbQ (R : Bool) (T : Nat) (bc : Nat) (w : World) (e : Ending) (w' : World) : Prop := ∃ m : Nat, e = .returned (.bool R) /\ w'.heap[bc]? = some (.cells #[.int .i64 ((m : Nat) : Int)] 3 (0, 0)) /\ m <= 41 /\ (R = true -> m = T) /\ Chg [bc] w w'
def WbRel (w : World) (bc d n : Nat) (l : List Wb) (nl : Nat) (t : Value) (wr : World) : Prop := ∃ k m : Nat, t = .int .i64 ((k : Nat) : Int) /\ k <= nl /\ (∀ j (h : j < l.length), j < k -> itemB (17 - d) l[j] = true) /\ m = n + wbN (l.take k) /\ m <= 40 /\ (k = 0 \/ d ≠ 17) /\
 wr.heap[bc]? = some (.cells #[.int .i64 ((m : Nat) : Int)] 3 (0, 0)) /\ Chg [bc] w wr
theorem writeBacks_calls {w0 : World} (ho : HasOps w0) (fm : Nat) : ∀ (l : List Wb) (a : OA) (nl c d n bc : Nat) (w : World), wbN l < fm -> nl <= 1000000000000000 -> wbFits l -> 1 <= d -> d <= 17 -> n <= 40 -> nl = l.length -> WbsD (mask w [bc]) l a -> Ext w0 w -> w0.heap.size <= bc ->
  w.heap[bc]? = some (.cells #[.int .i64 ((n : Nat) : Int)] 3 (0, 0)) ->
  Calls Tryz.prog 183 #[.slice a nl c, .int .i64 ((d : Nat) : Int), .pointer (some ⟨bc, 0, none⟩)] w (WbQ (backsB (17 - d) l && decide (n + wbN l <= 40)) (n + wbN l) bc w) := by
 induction fm with
 | zero => intro l a nl c d n bc w h; omega
 | succ fm ih =>
  intro l a nl c d n bc w hfm hnl hfit hd1 hd2 hn hln hdat hx0 hbc hcell
  have HD := hI hdat
  have HN := hI hln
  have HFT := hI hfit
  have HX0 := hI hx0
  have HO := hI ho
  have IH := hI ih
  have HBC := hI hbc
  have HCELL := hI hcell
  have HQ := hI (backsB_eq (17 - d) l)
  obtain ⟨R, hR⟩ : ∃ R, R = (backsB (17 - d) l && decide (n + wbN l <= 40)) := ⟨_, rfl⟩
  rw [<- hR]
  have HR := hI hR
  obtain ⟨T, hT⟩ : ∃ T, T = n + wbN l := ⟨_, rfl⟩
  rw [<- hT]
  have HT := hI hT
  clear hdat hln hfit hx0 ih hcell hR hT ho
  go_enter Tryz.func183, Tryz.ntmps183
  go_wp2_with fail
  go_loopw [11] (WbRel w bc d n l nl) (fun t _ => nl - (intOf t).toNat)
  case atStart => exact ⟨0, n, rfl, by omega, fun j _ h => by omega, by simp [wbN], hn, Or.inl rfl, HCELL.out, Chg.refl _ _⟩
  case round =>
   obtain ⟨k, m, rfl, hk, hall, hm, hm40, hk17, hcb, hch⟩ := hrel
   have HK17 := hI hk17
   have HALL := hI hall
   have HM := hI hm
   have HCB := hI hcb
   have HCH := hI hch
   obtain ⟨cc0, ccf⟩ := blk1 hcb
   have hbcl := blk_lt hcb
   clear hall hm hcb hch hk17
   by_cases hkn : k < nl
   case neg =>
    have t1 : decide ((k : Int) < (nl : Int)) = false := decide_eq_false (by omega)
    have HE := hI (show m = T /\ R = true by
     have h1 := HM.out
     have h2 := HN.out
     rw [List.take_of_length_le (by omega)] at h1
     refine ⟨by rw [HT.out, h1], ?_⟩
     rw [HR.out, Bool.and_eq_true]
     refine ⟨?_, by simp; omega⟩
     rw [HQ.out, Bool.and_eq_true]
     refine ⟨?_, ?_⟩
     ·by_cases h0 : l.length = 0
      ·simp [h0]
      have hd17 : 17 - d ≠ 0 := by
       have := HK17.out
       omega
      simp [hd17]
     rw [List.all_eq_true]
     intro x hx
     obtain ⟨j, hj, rfl⟩ := List.mem_iff_getElem.1 hx
     exact HALL.out j hj (by omega))
    go_wp2_with fail
    go_ret
    exact ⟨m, by rw [HE.out.2]; rfl, HCB.out, by omega, fun _ => HE.out.1, HCH.out⟩
   have hkl : k < l.length := by have := HN.out; omega
   have t1 : decide ((k : Int) < (nl : Int)) = true := decide_eq_true (by omega)
   obtain ⟨b, off, rfl, v, hv0, hrow, hv2, hv3, hv4, hv5, hv6⟩ := WbsD.at l _ (WbsD.mono HCH.out.sub _ _ HD.out) k hkl
   obtain ⟨c0, c1, c2, c3, c4, c5, c6, c7⟩ := (hrow.mono (mask_sub _ _)).eight
   obtain ⟨ho1, ho2, ho3, ho4, hou, ho5⟩ := wbFits_at l HFT.out k hkl
   have hvn : v.nu <= 1000000000000000 := by rw [hv3]; exact hou
   have hwn := wbN_at l k hkl
   have HU := hI hv6
   have HUN := hI hv3
   have HEX := hI hv2
   have HO2 := hI ho2
   have HO5 := hI ho5
   have HIT := hI (show itemB (17 - d) l[k] = (nameB l[k].name && refExprB l[k].cond && backsB (17 - d - 1) l[k].unl) from rfl)
   have HTS := hI (wbN_take_succ l k hkl)
   have htl := wbN_take_le l (k + 1)
   have HTL := hI htl
   have hblt := block_lt c0
   rw [hv0] at c0
   simp only at hblt
   clear hrow hv0 hv2 hv3 hv4 hv5 hv6 ho2 ho3 ho4 hou ho5 htl
   obtain ⟨wx, hwx⟩ : ∃ wx, wx = (wr.setCell ⟨bc, 0, none⟩ (.int .i64 ((m : Int) + 1))).alloc (.cells #[.string l[k].name, .int .i64 v.x.op, .string v.x.name, .slice v.x.aw v.x.nw v.x.cw, .int .i64 v.x.lo, .int .i64 v.x.hi, .slice v.x.aa v.x.na v.x.ca, .slice v.au v.nu v.cu] 53) := ⟨_, rfl⟩
   have HBX := hI (show wx.heap[wr.heap.size]? = some (.cells #[.string l[k].name, .int .i64 v.x.op, .string v.x.name, .slice v.x.aw v.x.nw v.x.cw, .int .i64 v.x.lo, .int .i64 v.x.hi, .slice v.x.aa v.x.na v.x.ca, .slice v.au v.nu v.cu] 53 (0, 0)) by
    rw [hwx]
    exact alloc_atR (by simp))
   have HCX := hI (show wx.heap[bc]? = some (.cells #[.int .i64 (((m + 1 : Nat)) : Int)] 3 (0, 0)) by
    rw [hwx]
    have := heap_setCell_same wr bc 0 _ _ (.int .i64 ((m : Int) + 1)) HCB.out
    exact blk_alloc this)
   have HHX := hI (show Chg [bc] wr wx by rw [hwx]; exact ((Chg.refl [bc] wr).setCell (Or.inl (by simp)) _).alloc _)
   go_upto_region 5 with fail
   rw [<- hwx]
   have HXX := hI ((HCH.out.then HHX.out).ext HX0.out (by simpa using HBC.out))
   clear hwx cc0 ccf c0 c1 c2 c3 c4 c5 c6 c7
   obtain ⟨cc0, ccf⟩ := blk1 HCX.out
   have HFAL := hI (fun (h : itemB (17 - d) l[k] = false) => show R = false by
    rw [HR.out, HQ.out]
    have : l.all (itemB (17 - d)) = false := by
     rw [List.all_eq_false]
     exact ⟨l[k], List.getElem_mem hkl, by rw [h]; simp⟩
    rw [this]; simp)
   have HCNT := hI (fun (h : 40 < n + wbN l) => show R = false by
    rw [HR.out]
    have : decide (n + wbN l <= 40) = false := decide_eq_false (by omega)
    rw [this]; simp)
   by_cases h17 : d = 17
   ·have t2 : decide ((16 : Int) < (d : Int)) = true := decide_eq_true (by omega)
    have HF := hI (show R = false by
     rw [HR.out, HQ.out, h17]
     have : ¬ l.length = 0 := by omega
     simp [this])
    go_wp2_with fail
    go_ret
    exact ⟨m + 1, by rw [HF.out]; rfl, HCX.out, by omega, fun h => (by rw [HF.out] at h; cases h), HCH.out.then HHX.out⟩
   have t2 : decide ((16 : Int) < (d : Int)) = false := decide_eq_false (by omega)
   by_cases h40 : 40 < m + 1
   ·have t3 : decide ((40 : Int) < ((m + 1 : Nat) : Int)) = true := decide_eq_true (by omega)
    have HF := hI (HCNT.out (by have h1 := HM.out; have h2 := HTS.out; have h3 := HTL.out; omega))
    go_wp2_with fail
    go_ret
    exact ⟨m + 1, by rw [HF.out]; rfl, HCX.out, by omega, fun h => (by rw [HF.out] at h; cases h), HCH.out.then HHX.out⟩
   have t3 : decide ((40 : Int) < ((m + 1 : Nat) : Int)) = false := decide_eq_false (by omega)
   obtain ⟨c0, c1, c2, c3, c4, c5, c6, c7, cf⟩ := blk8 HBX.out
   have hltx := blk_lt HBX.out
   cases hnb : nameB l[k].name
   ·have HNB := hI hnb
    have HF := hI (HFAL.out (by rw [HIT.out, hnb]; rfl))
    clear hnb
    go_wp2_with fail
    refine (name_calls _ _ ho1).mono ?_
    rintro r w1 ⟨rfl, rfl⟩
    rw [HNB.out]
    go_wp2_with fail
    go_ret
    exact ⟨m + 1, by rw [HF.out]; rfl, HCX.out, by omega, fun h => (by rw [HF.out] at h; cases h), HCH.out.then HHX.out⟩
   have HNB := hI hnb
   rw [hnb, Bool.true_and] at HIT
   clear hnb
   go_wp2_with fail
   refine (name_calls _ _ ho1).mono ?_
   rintro r w1 ⟨rfl, rfl⟩
   rw [HNB.out]
   go_wp2_with fail
   refine (Valid_calls l[k].cond _ wx (HEX.out.mono (HHX.out.sub.trans (mask_sub _ _))) (HO.out.ext HXX.out) HO2.out).mono ?_
   rintro r w2 ⟨rfl, hx2⟩
   rw [validB_ref]
   have HX2 := hI (HXX.out.trans hx2)
   have HC2 := hI (hx2.blk HCX.out)
   have HB2 := hI (hx2.blk HBX.out)
   have HCH2 := hI ((HCH.out.then HHX.out).then (hx2.chg [bc]))
   have HU2 := hI (WbsD.mono ((HHX.out.then (hx2.chg [bc])).sub) _ _ HU.out)
   clear hx2 c0 c1 c2 c3 c4 c5 c6 c7 cf cc0 ccf hltx
   obtain ⟨c0, c1, c2, c3, c4, c5, c6, c7, cf⟩ := blk8 HB2.out
   have hltx := blk_lt HB2.out
   cases hxb : refExprB l[k].cond
   ·have HF := hI (HFAL.out (by rw [HIT.out, hxb]; rfl))
    go_wp2_with fail
    go_ret
    exact ⟨m + 1, by rw [HF.out]; rfl, HC2.out, by omega, fun h => (by rw [HF.out] at h; cases h), HCH2.out⟩
   rw [hxb, Bool.true_and] at HIT
   clear hxb
   have Q1 := hI (show (d : Int) + 1 = ((d + 1 : Nat) : Int) by omega)
   have HWF := hI (IH.out l[k].unl v.au v.nu v.cu (d + 1) (m + 1) bc w2 (by omega) hvn HO5.out (by omega) (by omega) (by omega) HUN.out HU2.out HX2.out HBC.out HC2.out)
   have e1 : 17 - (d + 1) = 17 - d - 1 := by omega
   rw [e1, <- HIT.out] at HWF
   clear e1
   go_wp2_with fail
   rw [Q1.out]
   refine HWF.out.mono ?_
   rintro r w3 ⟨m3, rfl, hc3, hm3, hT3, hch3⟩
   have HC3 := hI hc3
   have HT3 := hI hT3
   have HCH3 := hI (HCH2.out.then hch3)
   clear hc3 hT3 hch3 c0 c1 c2 c3 c4 c5 c6 c7 cf hltx
   cases hib : itemB (17 - d) l[k]
   ·have HF := hI (HFAL.out hib)
    simp only [Bool.false_and]
    clear hib
    go_wp2_with fail
    go_ret
    exact ⟨m3, by rw [HF.out]; rfl, HC3.out, hm3, fun h => (by rw [HF.out] at h; cases h), HCH3.out⟩
   have HIB := hI hib
   rw [hib] at HT3
   clear hib
   simp only [Bool.true_and]
   by_cases hs40 : m + 1 + wbN l[k].unl <= 40
   case neg =>
    have t4 : decide (m + 1 + wbN l[k].unl <= 40) = false := decide_eq_false hs40
    rw [t4]
    have HF := hI (HCNT.out (by have h1 := HM.out; have h2 := HTS.out; have h3 := HTL.out; omega))
    clear t4
    go_wp2_with fail
    go_ret
    exact ⟨m3, by rw [HF.out]; rfl, HC3.out, hm3, fun h => (by rw [HF.out] at h; cases h), HCH3.out⟩
   have t4 : decide (m + 1 + wbN l[k].unl <= 40) = true := decide_eq_true hs40
   rw [t4]
   have HMM := hI (HT3.out (by rw [t4]; rfl))
   clear t4
   go_wp2_with fail
   go_roundw
   case rel =>
    refine ⟨k + 1, m3, by go_num, by omega, fun j hj hjk => ?_, ?_, ?_, ?_, HC3.out, HCH3.out⟩
    ·by_cases e : j = k
     ·subst e; exact HIB.out
     exact HALL.out j hj (by omega)
    ·rw [HTS.out, HMM.out, HM.out]; omega
    ·rw [HMM.out]; exact hs40
    exact Or.inr h17
   case measure => simp [intOf]; omega
def wbsV (V : Ex -> Bool) : List Wb -> Bool
 | [] => false
 | .mk _ c u :: r => (V c && !wbsV V u) || wbsV V r
def wbsOkT (P : Ex -> Prop) : List Wb -> Prop
 | [] => True
 | .mk _ c u :: r => P c /\ wbsOkT P u /\ u.length <= 1000000000000000 /\ wbsOkT P r
theorem wbsV_drop (V : Ex -> Bool) {l : List Wb} {k : Nat} (hk : k < l.length) : wbsV V (l.drop k) = ((V l[k].cond && !wbsV V l[k].unl) || wbsV V (l.drop (k + 1))) := by
 rw [List.drop_eq_getElem_cons hk]
 cases h : l[k] with
 | mk n c u => rw [wbsV]; rfl
theorem wbsOkT_at {P : Ex -> Prop} : (l : List Wb) -> wbsOkT P l -> (k : Nat) -> (hk : k < l.length) -> P l[k].cond /\ wbsOkT P l[k].unl /\ l[k].unl.length <= 1000000000000000
 | [], _, k, hk => by simp at hk
 | .mk n c u :: r, h, 0, _ => by
  unfold wbsOkT at h
  exact ⟨h.1, h.2.1, h.2.2.1⟩
 | .mk n c u :: r, h, k + 1, hk => by
  unfold wbsOkT at h
  simpa using wbsOkT_at r h.2.2.2 k (by simpa using hk)
def BkI (V : Ex -> Bool) (u : List Wb) (n : Nat) (w : World) (i : Value) (wr : World) : Prop := ∃ k : Nat, i = .int .i64 k /\ k <= n /\ wbsV V u = wbsV V (u.drop k) /\ Ext w wr
def claV (V : Ex -> Bool) (x : Cla) : Bool := V x.cond && !wbsV V x.unl
def someB (V : Ex -> Bool) (kind : Int) (neg : Bool) : List Cla -> Bool
 | [] => false
 | x :: r => (x.kind == kind && (claV V x != neg)) || someB V kind neg r
def greatS (V : Ex -> Bool) (kind : Int) (m : Int) (x : Cla) : Int := if (x.kind == kind && claV V x) = true then max m x.amount else m
def greatK (V : Ex -> Bool) (kind : Int) (l : List Cla) : Int := l.foldl (greatS V kind) 0
def noCall (o : Oper) : Bool := match o.op with
 | .call c => (match c.callee with | .builtin .len => true | .builtin .cap => true | .builtin .min => true | .builtin .max => true | _ => false)
 | .move _ | .assign _ | .pick .. | .build .. | .load .. | .binOp .. | .unOp .. | .convert .. | .makeInterface .. | .slice .. | .fieldAddr .. | .field .. | .indexAddr .. | .index .. | .lookup .. | .typeAssert .. | .extract .. | .alloc .. | .box .. | .buildSlice .. | .makeSlice .. | .makeMap .. | .makeFunc .. => true
 | _ => false
theorem no_enter_v (s : Sem Value) (P : Program) (W : World) (f : FuncId) (args : Array Value) (W' : World) : (do pure (.value (<- s)) : Sem Next).run P W ≠ .ok (.enter f args) W' := by
 rw [Sem.run_bind]
 cases s.run P W <;> simp [Result.andThen, Sem.run_pure]
theorem no_enter_m (v : Value) (P : Program) (W : World) (f : FuncId) (args : Array Value) (W' : World) : (pure (.value v) : Sem Next).run P W ≠ .ok (.enter f args) W' := by
 simp [Sem.run_pure]
theorem noCall_enter {o : Oper} (h : noCall o = true) (ρ : Operand -> Value) (P : Program) (W : World) (f : FuncId) (args : Array Value) (W' : World) : (execOp ρ o).run P W ≠ .ok (.enter f args) W' := by
 unfold noCall at h
 unfold execOp
 split at h
 ·rename_i c ho
  simp only [ho]
  split at h
  all_goals first
   | (cases h; done)
   | (rename_i hc; simp only [resolve, hc, Sem.run_bind, Sem.run_pure, Result.andThen, invoke, builtin]; generalize (Sem.run P _ W) = r; cases r <;> simp)
 all_goals first
  | (cases h; done)
  | (rename_i ho; simp only [ho]; exact no_enter_v _ _ _ _ _ _)
  | (rename_i ho; simp only [ho]; exact no_enter_m _ _ _ _ _ _)
  | (rename_i ho; simp only [ho]; rw [Sem.run_bind]; generalize (Sem.run P _ W) = r; cases r <;> simp [Result.andThen, Sem.run_pure])
def WIn (C : World -> Prop) := {W : World // C W}
def Det (P : Program) (ops : Array Oper) (o : Oper) (A : Act) (W : World) (v : Value) (W' : World) : Prop :=
 (Region.wanted o (yielded ops A.tmps) = true /\ ((execOp A.eval o).run P W = .ok (.value v) W' \/ ((execOp A.eval o).run P W = .ok .skip W' /\ v = undef))) \/
 (Region.wanted o (yielded ops A.tmps) = false /\ v = undef /\ W' = W)
theorem Det.same {P : Program} {ops : Array Oper} {o : Oper} {A : Act} {W : World} {v v2 : Value} {W' W2 : World} (h : Det P ops o A W v W') (k : Det P ops o A W v2 W2) : v = v2 /\ W' = W2 := by
 unfold Det at h k
 rcases h with ⟨h1, h2⟩ | ⟨h1, h2, h3⟩ <;> rcases k with ⟨k1, k2⟩ | ⟨k1, k2, k3⟩
 ·rcases h2 with h2 | ⟨h2, h4⟩ <;> rcases k2 with k2 | ⟨k2, k4⟩ <;> rw [h2] at k2 <;> cases k2
  ·exact ⟨rfl, rfl⟩
  exact ⟨by rw [h4, k4], rfl⟩
 ·rw [h1] at k1; cases k1
 ·rw [h1] at k1; cases k1
 exact ⟨by rw [h2, k2], by rw [h3, k3]⟩
def Outs (P : Program) (ops : Array Oper) (o : Oper) (A : Act) (W : World) (T : Value -> World -> Prop) : Prop :=
 if Region.wanted o (yielded ops A.tmps) = true then GivesOp P o A.eval W T else T undef W
theorem Det.outs {P : Program} {ops : Array Oper} {o : Oper} {A : Act} {W : World} {v : Value} {W' : World} {T : Value -> World -> Prop} (h : Det P ops o A W v W') (ht : T v W') : Outs P ops o A W T := by
 unfold Outs
 rcases h with ⟨h1, h2⟩ | ⟨h1, h2, h3⟩
 ·rw [if_pos h1]
  unfold GivesOp
  rcases h2 with h2 | ⟨h2, h4⟩ <;> rw [h2]
  ·exact ht
  rw [h4] at ht; exact ht
 rw [h1, if_neg (by simp), <- h2, <- h3]; exact ht
theorem GivesOp.mono {P : Program} {o : Oper} {ρ : Operand -> Value} {W : World} {T T' : Value -> World -> Prop} (h : GivesOp P o ρ W T) (ht : ∀ v W', T v W' -> T' v W') : GivesOp P o ρ W T' := by
 unfold GivesOp at *
 split at h
 ·exact ht _ _ h
 ·exact ht _ _ h
 ·refine Calls.mono h (fun e w'' he => ?_)
  obtain ⟨v, hv, hk⟩ := he
  exact ⟨v, hv, ht _ _ hk⟩
 exact h
theorem Outs.mono {P : Program} {ops : Array Oper} {o : Oper} {A : Act} {W : World} {T T' : Value -> World -> Prop} (h : Outs P ops o A W T) (ht : ∀ v W', T v W' -> T' v W') : Outs P ops o A W T' := by
 unfold Outs at *
 split
 ·rename_i hw; rw [if_pos hw] at h; exact h.mono ht
 rename_i hw; rw [if_neg hw] at h; exact ht _ _ h
def okCh (ops : Array Oper) (m : Nat) : Bool :=
 Region.noSelect ops && decide (m <= ops.size) &&
 ((List.range ops.size).all fun i => (List.range ops.size).all fun j => i == j || dstAt ops i == none || dstAt ops i != dstAt ops j) &&
 ((List.range ops.size).all fun i => match ops[i]? with
  | none => false
  | some o => (o.after.all fun e => !Region.binds .any e || decide (e.on < i)) &&
   (decide (m <= i) || (List.range m).all fun j => match dstAt ops j with
    | none => true
    | some t => !(o.looksAt ops).contains t || o.after.any (fun e => Region.binds .any e && e.on == j)) &&
   (decide (i < m) || (List.range i).all fun j => o.after.any (fun e => Region.binds .any e && e.on == j)))
theorem okCh_spec {ops : Array Oper} {m : Nat} (h : okCh ops m = true) : Region.noSelect ops = true /\ m <= ops.size /\ DstApart ops /\
  (∀ i o, ops[i]? = some o -> (∀ e ∈ o.after, Region.binds .any e = true -> e.on < i) /\ (i < m -> ∀ j t, j < m -> dstAt ops j = some t -> t ∈ o.looksAt ops -> ∃ e ∈ o.after, Region.binds .any e = true /\ e.on = j) /\
   (m <= i -> ∀ j, j < i -> ∃ e ∈ o.after, Region.binds .any e = true /\ e.on = j)) := by
 simp only [okCh, Bool.and_eq_true, decide_eq_true_eq] at h
 obtain ⟨⟨⟨h1, h2⟩, h4⟩, h5⟩ := h
 refine ⟨h1, h2, ?_, ?_⟩
 ·intro i j d hi hj
  have hlt : ∀ i, dstAt ops i = some d -> i < ops.size := fun i hi => by
   unfold dstAt at hi
   rcases Nat.lt_or_ge i ops.size with h | h
   ·exact h
   rw [Array.getElem?_eq_none h] at hi; simp at hi
  have := List.all_eq_true.1 (List.all_eq_true.1 h4 i (by simpa using hlt i hi)) j (by simpa using hlt j hj)
  simpa [hi, hj] using this
 intro i o ho
 have h6 := List.all_eq_true.1 h5 i (by simpa using (Array.getElem?_eq_some_iff.1 ho).1)
 simp only [ho, Bool.and_eq_true] at h6
 obtain ⟨⟨g2, g3⟩, g4⟩ := h6
 have hany : ∀ j, o.after.any (fun e => Region.binds .any e && e.on == j) = true -> ∃ e ∈ o.after, Region.binds .any e = true /\ e.on = j := fun j h => by
  obtain ⟨e, he, hb⟩ := Array.any_eq_true'.1 h
  simp only [Bool.and_eq_true, beq_iff_eq] at hb
  exact ⟨e, he, hb.1, hb.2⟩
 refine ⟨fun e he hb => ?_, fun hm j t hjm hj ht => ?_, fun hm j hj => ?_⟩
 ·have := Array.all_eq_true_iff_forall_mem.1 g2 e he
  rw [hb] at this
  simpa using this
 ·rcases Bool.or_eq_true_iff.1 g3 with g | g
  ·simp only [decide_eq_true_eq] at g; omega
  have := List.all_eq_true.1 g j (by simpa using hjm)
  rw [hj] at this
  simp only [Bool.or_eq_true, Bool.not_eq_true'] at this
  rcases this with h | h
  ·rw [List.contains_iff_mem.2 ht] at h; cases h
  exact hany j h
 rcases Bool.or_eq_true_iff.1 g4 with g | g
 ·simp only [decide_eq_true_eq] at g; omega
 exact hany j (List.all_eq_true.1 g j (by simpa using hj))
def Clsd (ops : Array Oper) (L : ZN) : Prop := ∀ i ∈ L, ∀ o, ops[i]? = some o -> ∀ e ∈ o.after, Region.binds .any e = true -> e.on ∈ L
section
variable {P : Program} {ops : Array Oper} {Q : Exit -> Act -> World -> Prop} {a : Act} {m : Nat}
theorem wpAny_tail (hok : okCh ops m = true) : ∀ (r i fuel : Nat) (listed : Array Bool) (a : Act) (w : World), m <= i -> i + r = ops.size -> r <= fuel -> listed.size = ops.size -> (∀ j, j < ops.size -> (listed.getD j true = true ↔ j < i)) -> wpList P ops Q (ops.toList.drop i) a w -> wpAny P .any ops Q fuel listed a w := by
 obtain ⟨-, -, -, hspec⟩ := okCh_spec hok
 intro r
 induction r with
 | zero =>
  intro i fuel listed a w hmi hir hf hsz hL h
  rw [List.drop_eq_nil_of_le (by simp; omega)] at h
  refine wpAny_done ?_ h fuel
  rw [List.eq_nil_iff_forall_not_mem]
  intro j hj
  obtain ⟨h0, o, ho, _⟩ := mem_ready.1 hj
  have := (hL j (Array.getElem?_eq_some_iff.1 ho).1).2 (by have := (Array.getElem?_eq_some_iff.1 ho).1; omega)
  rw [this] at h0; cases h0
 | succ r ih =>
  intro i fuel listed a w hmi hir hf hsz hL h
  obtain ⟨fuel, rfl⟩ : ∃ f, fuel = f + 1 := ⟨fuel - 1, by omega⟩
  have his : i < ops.size := by omega
  have hget : ∀ j, j < i -> listed.getD j false = true := fun j hj => by
   have := (hL j (by omega)).2 hj
   have hin : j < listed.size := by omega
   simpa [Array.getD, hin] using this
  have hrdy : i ∈ Region.ready .any ops listed := by
   rw [mem_ready]
   refine ⟨?_, ops[i], Array.getElem?_eq_getElem his, fun e he hb => hget _ ((hspec i _ (Array.getElem?_eq_getElem his)).1 e he hb)⟩
   cases hx : listed.getD i true
   ·rfl
   have := (hL i his).1 hx; omega
  refine ⟨fun hr => by rw [hr] at hrdy; simp at hrdy, fun j hj => ?_⟩
  obtain ⟨h0, o, ho, hdep⟩ := mem_ready.1 hj
  have hjs := (Array.getElem?_eq_some_iff.1 ho).1
  have hge : ¬ j < i := fun hlt => by rw [(hL j hjs).2 hlt] at h0; cases h0
  have hji : j = i := by
   rcases Nat.lt_or_ge i j with hlt | hle
   ·obtain ⟨e, he, hb, rfl⟩ := (hspec j o ho).2.2 (by omega) i hlt
    have h1 := hdep e he hb
    have hin : e.on < listed.size := by omega
    have h2 : listed.getD e.on true = true := by simpa [Array.getD, hin] using h1
    have := (hL _ his).1 h2
    omega
   omega
  subst hji
  have hd : ops.toList.drop j = o :: ops.toList.drop (j + 1) := by
   rw [List.drop_eq_getElem_cons (by simpa using hjs)]
   congr 1
   have := (Array.getElem?_eq_some_iff.1 ho).2
   simpa using this
  rw [hd] at h
  have hnext : ∀ a' w', wpList P ops Q (ops.toList.drop (j + 1)) a' w' -> wpAny P .any ops Q fuel (listed.setIfInBounds j true) a' w' := fun a' w' h' => by
   refine ih (j + 1) fuel _ a' w' (by omega) (by omega) (by omega) (by simpa using hsz) (fun q hq => ?_) h'
   by_cases hjq : j = q
   ·subst hjq; simp [hsz, hjs]
   rw [getD_set_ne true hjq, hL q hq]; omega
  unfold wpOp
  simp only [ho]
  unfold wpList at h
  split
  ·rename_i hw; rw [if_pos hw] at h; exact h.imp (Oper.wp_mono hnext) id
  rename_i hw; rw [if_neg hw] at h; exact hnext _ _ h
theorem wpAny_core (G : ZN -> (Nat -> Value) -> World -> Prop) (hok : okCh ops m = true)
  (hstep : ∀ i o, i < m -> ops[i]? = some o -> ∀ L vs W, i ∉ L -> (∀ j ∈ L, j < m) -> Clsd ops L -> (∀ e ∈ o.after, Region.binds .any e = true -> e.on ∈ L) -> G L vs W -> Outs P ops o (acts ops a vs L) W (fun v W' => G (L ++ [i]) (upd vs i v) W'))
  (hend : ∀ L vs W, (∀ j, j < m -> j ∈ L) -> G L vs W -> wpList P ops Q (ops.toList.drop m) (acts ops a vs (List.range m)) W) :
  ∀ (fuel : Nat) (L : ZN) (vs : Nat -> Value) (W : World) (listed : Array Bool), listed.size = ops.size -> (∀ j, j < ops.size -> (listed.getD j true = true ↔ j ∈ L)) -> L.Nodup -> (∀ j ∈ L, j < m) -> ((List.range ops.size).filter (fun j => !L.contains j)).length <= fuel -> Clsd ops L -> G L vs W ->
   wpAny P .any ops Q fuel listed (acts ops a vs L) W := by
 obtain ⟨hns, hm1, hda, hspec⟩ := okCh_spec hok
 -- all below m are done: the rest comes one after another
 have hfin : ∀ (fuel : Nat) (L : ZN) (vs : Nat -> Value) (W : World) (listed : Array Bool), listed.size = ops.size -> (∀ j, j < ops.size -> (listed.getD j true = true ↔ j ∈ L)) -> L.Nodup -> (∀ j ∈ L, j < m) -> (∀ j, j < m -> j ∈ L) -> ((List.range ops.size).filter (fun j => !L.contains j)).length <= fuel -> G L vs W -> wpAny P .any ops Q fuel listed (acts ops a vs L) W := by
  intro fuel L vs W listed hsz hL hnd hLm hcov hlen hE
  have hmem : ∀ j, j ∈ L ↔ j < m := fun j => ⟨hLm j, hcov j⟩
  rw [acts_perm hda (L' := List.range m) ((List.perm_ext_iff_of_nodup hnd List.nodup_range).2 (fun j => by rw [hmem j, List.mem_range]))]
  refine wpAny_tail hok (ops.size - m) m fuel listed _ _ (Nat.le_refl _) (by omega) ?_ hsz (fun j hj => by rw [hL j hj, hmem]) (hend L vs W hcov hE)
  refine Nat.le_trans ?_ hlen
  have h1 : (List.range' m (ops.size - m)).Sublist ((List.range ops.size).filter (fun j => !L.contains j)) := by
   have h2 : (List.range' m (ops.size - m)) = (List.range' m (ops.size - m)).filter (fun j => !L.contains j) := by
    rw [List.filter_eq_self.2]
    intro j hj
    have := List.mem_range'_1.1 hj
    simp only [List.contains_eq_mem, Bool.not_eq_true', decide_eq_false_iff_not, hmem]
    omega
   rw [h2]
   refine List.Sublist.filter _ ?_
   rw [List.range_eq_range']
   have : List.range' 0 ops.size = List.range' 0 m ++ List.range' m (ops.size - m) := by
    have := @List.range'_append 0 m (ops.size - m) 1
    simp only [Nat.one_mul, Nat.zero_add] at this
    rw [this]
    congr 1
    omega
   rw [this]
   exact List.sublist_append_right _ _
  have := h1.length_le
  simpa using this
 intro fuel
 induction fuel with
 | zero =>
  intro L vs W listed hsz hL hnd hLm hlen hcl hE
  refine hfin 0 L vs W listed hsz hL hnd hLm (fun j hj => ?_) hlen hE
  have h0 := List.eq_nil_of_length_eq_zero (Nat.le_zero.1 hlen)
  have : j ∉ (List.range ops.size).filter (fun j => !L.contains j) := by rw [h0]; simp
  have hjs : j < ops.size := by omega
  simpa [hjs] using this
 | succ fuel ih =>
  intro L vs W listed hsz hL hnd hLm hlen hcl hE
  by_cases hcov : ∀ j, j < m -> j ∈ L
  ·exact hfin _ L vs W listed hsz hL hnd hLm hcov hlen hE
  -- the least that is not done is ready
  obtain ⟨j0, hj0, hj1, hj2⟩ : ∃ j, j < m /\ j ∉ L /\ ∀ i, i < j -> i ∈ L := by
   have : ∃ j, j < m /\ j ∉ L := by simpa using hcov
   obtain ⟨j, hj, hn⟩ := this
   induction j using Nat.strongRecOn with
   | _ j ihj =>
    by_cases hx : ∀ i, i < j -> i ∈ L
    ·exact ⟨j, hj, hn, hx⟩
    have : ∃ i, i < j /\ i ∉ L := by simpa using hx
    obtain ⟨i, hi, hin⟩ := this
    exact ihj i hi (by omega) hin
  have hrdy : j0 ∈ Region.ready .any ops listed := by
   have hjs : j0 < ops.size := by omega
   rw [mem_ready]
   refine ⟨?_, ops[j0], Array.getElem?_eq_getElem hjs, fun e he hb => ?_⟩
   ·cases hx : listed.getD j0 true
    ·rfl
    exact absurd ((hL j0 hjs).1 hx) hj1
   have hlt := (hspec j0 _ (Array.getElem?_eq_getElem hjs)).1 e he hb
   have := (hL e.on (by omega)).2 (hj2 _ hlt)
   have hin : e.on < listed.size := by omega
   simpa [Array.getD, hin] using this
  refine ⟨fun hr => by rw [hr] at hrdy; simp at hrdy, fun i hi => ?_⟩
  obtain ⟨h0, o, ho, hdep⟩ := mem_ready.1 hi
  have his : i < ops.size := (Array.getElem?_eq_some_iff.1 ho).1
  have hiL : i ∉ L := fun h => by rw [(hL i his).2 h] at h0; cases h0
  have hdepL : ∀ e ∈ o.after, Region.binds .any e = true -> e.on ∈ L := fun e he hb => by
   have h1 := hdep e he hb
   have hlt := (hspec i o ho).1 e he hb
   have hin : e.on < listed.size := by rw [hsz]; omega
   exact (hL e.on (by omega)).1 (by simpa [Array.getD, hin] using h1)
  have him : i < m := by
   rcases Nat.lt_or_ge i m with h | h
   ·exact h
   obtain ⟨e, he, hb, rfl⟩ := (hspec i o ho).2.2 h j0 (by omega)
   exact absurd (hdepL e he hb) hj1
  have hcont : ∀ v W', G (L ++ [i]) (upd vs i v) W' -> wpAny P .any ops Q fuel (listed.setIfInBounds i true) ((acts ops a vs L).put o.dst v) W' := by
   intro v W' hE'
   have e1 : (acts ops a vs L).put o.dst v = acts ops a (upd vs i v) (L ++ [i]) := by
    rw [acts_snoc, acts_congr (vs := upd vs i v) (vs' := vs) (fun j hj => by unfold upd; rw [if_neg (fun e => hiL (by rw [<- e]; exact hj))])]
    simp [upd, dstAt, ho]
   rw [e1]
   refine ih (L ++ [i]) (upd vs i v) W' _ (by simpa using hsz) (fun j hj => ?_) ?_ ?_ ?_ ?_ hE'
   ·by_cases hij : i = j
    ·subst hij; simp [hsz, his]
    rw [getD_set_ne true hij, hL j hj]; simp; intro e; exact absurd e.symm hij
   ·rw [List.nodup_append]
    exact ⟨hnd, by simp, fun x hx y hy e => by simp at hy; subst hy; subst e; exact hiL hx⟩
   ·intro j hj
    rcases List.mem_append.1 hj with h | h
    ·exact hLm j h
    simp at h; omega
   ·have h1 : (List.range ops.size).filter (fun j => !(L ++ [i]).contains j) = ((List.range ops.size).filter (fun j => !L.contains j)).filter (fun j => j != i) := by
     rw [List.filter_filter]
     congr 1
     funext j
     simp only [List.contains_append, Bool.not_or]
     rw [Bool.and_comm]
     congr 1
     rw [Bool.eq_iff_iff]; simp [bne]
    have h2 : (((List.range ops.size).filter (fun j => !L.contains j)).filter (fun j => j != i)).length < ((List.range ops.size).filter (fun j => !L.contains j)).length := by
     rw [List.length_filter_lt_length_iff_exists]
     exact ⟨i, by simp [his, hiL], by simp⟩
    rw [h1]; omega
   intro j hj o' ho' e he hb
   rcases List.mem_append.1 hj with h | h
   ·exact List.mem_append_left _ (hcl j h o' ho' e he hb)
   simp at h; subst h
   rw [ho] at ho'
   cases ho'
   exact List.mem_append_left _ (hdepL e he hb)
  have hg := hstep i o him ho L vs W hiL hLm hcl hdepL hE
  unfold wpOp
  simp only [ho]
  unfold Outs at hg
  split
  ·rename_i hw
   rw [if_pos hw] at hg
   left
   refine Oper.wp_mono ?_ (hg.wp rfl)
   rintro a' W' ⟨v, rfl, hk⟩
   exact hcont v W' hk
  rename_i hw
  rw [if_neg hw] at hg
  exact hcont _ _ hg
end
inductive Tr : Type 1
 | done
 | plain (v : Value) (next : Tr)
 | later (v : Value) (next : Tr)
 | alloc (val : Nat -> Value) (F : Nat -> World -> Prop) (next : Nat -> Tr)
 | call (γ : Type) (val : γ -> Value) (Φ : γ -> World -> Prop) (next : γ -> Tr)
section
variable (P : Program) (ops : Array Oper) (Q : Exit -> Act -> World -> Prop) (m : Nat) (Er : World -> World -> Prop) (C : World -> Prop)
def Ok : Tr -> Nat -> Act -> (World -> Prop) -> (World -> Prop) -> ZN -> ZN -> Prop
 | .done, k, ac, Φ, FA, _, _ => k = m /\ ∀ W, C W -> Φ W -> FA W -> wpList P ops Q (ops.toList.drop m) ac W
 | .plain v next, k, ac, Φ, FA, gh, pf => k < m /\ (∃ o, ops[k]? = some o /\ ∀ W, C W -> Det P ops o ac W v W) /\ Ok next (k + 1) (ac.put (dstAt ops k) v) Φ FA gh pf
 | .later v next, k, ac, Φ, FA, gh, pf => k < m /\ gh.all (fun j => comesAfter ops m k j) = true /\ (∃ o, ops[k]? = some o /\ ∀ W, C W -> Φ W -> FA W -> Det P ops o ac W v W) /\ Ok next (k + 1) (ac.put (dstAt ops k) v) Φ FA gh (k :: pf)
 | .alloc val F next, k, ac, Φ, FA, gh, pf => k < m /\ (∃ o, ops[k]? = some o /\ ∀ W, C W -> ∃ g W', Det P ops o ac W (val g) W' /\ Ext W W' /\ F g W') /\ (∀ g W W', Er W W' -> F g W -> F g W') /\
   ∀ g, Ok (next g) (k + 1) (ac.put (dstAt ops k) (val g)) Φ (fun W => FA W /\ F g W) (k :: gh) pf
 | .call γ val Φ' next, k, ac, Φ, FA, gh, pf => k < m /\ gh.all (fun j => comesAfter ops m k j) = true /\ pf.all (fun j => comesAfter ops m k j) = true /\
   (∃ o, ops[k]? = some o /\ ∀ W, C W -> Φ W -> FA W -> Outs P ops o ac W (fun v W' => Er W W' /\ ∃ c, v = val c /\ Φ' c W')) /\ Nonempty γ /\ (∀ c W W', Ext W W' -> Φ' c W -> Φ' c W') /\
   ∀ c, Ok (next c) (k + 1) (ac.put (dstAt ops k) (val c)) (Φ' c) FA (k :: gh) pf
def Inv (L : ZN) (vs : Nat -> Value) (W : World) : Tr -> Bool -> Nat -> (World -> Prop) -> Prop
 | .done, b, _, Φ => b = true -> Φ W
 | .plain v next, b, k, Φ => (k ∈ L -> vs k = v) /\ Inv L vs W next b (k + 1) Φ
 | .later v next, b, k, Φ => (k ∈ L -> vs k = v) /\ Inv L vs W next b (k + 1) Φ
 | .alloc val F next, b, k, Φ => (k ∈ L /\ ∃ g, vs k = val g /\ F g W /\ Inv L vs W (next g) b (k + 1) Φ) \/ (k ∉ L /\ ∀ g, Inv L vs W (next g) b (k + 1) Φ)
 | .call _ val Φ' next, b, k, Φ => (b = true /\ k ∈ L /\ ∃ c, vs k = val c /\ Inv L vs W (next c) true (k + 1) (Φ' c)) \/ (k ∉ L /\ (b = true -> Φ W) /\ ∀ c, Inv L vs W (next c) false (k + 1) (Φ' c))
end
section
variable {P : Program} {ops : Array Oper} {Q : Exit -> Act -> World -> Prop} {m : Nat} {Er : World -> World -> Prop} {C : World -> Prop} {L : ZN} {vs : Nat -> Value} {W : World} {a : Act}
theorem Inv.start : ∀ (t : Tr) (b : Bool) (k : Nat) (Φ : World -> Prop), (b = true -> Φ W) -> Inv [] vs W t b k Φ := by
 intro t
 induction t with
 | done => intro b k Φ h; exact h
 | plain v next ih => intro b k Φ h; exact ⟨fun h => by simp at h, ih b _ _ h⟩
 | later v next ih => intro b k Φ h; exact ⟨fun h => by simp at h, ih b _ _ h⟩
 | alloc val F next ih => intro b k Φ h; exact Or.inr ⟨by simp, fun g => ih g b _ _ h⟩
 | call γ val Φ' next ih => intro b k Φ h; exact Or.inr ⟨by simp, h, fun c => ih c false _ _ (fun h => by cases h)⟩
theorem Inv.keep {i : Nat} {v : Value} {W' : World} (hE : Er W W') (hx : Ext W W') : ∀ (t : Tr) (b : Bool) (k : Nat) (ac : Act) (Φ FA : World -> Prop) (gh pf : ZN), Ok P ops Q m Er C t k ac Φ FA gh pf -> (∀ W W', Ext W W' -> Φ W -> Φ W') -> i < k -> Inv L vs W t b k Φ -> Inv (L ++ [i]) (upd vs i v) W' t b k Φ := by
 have hm : ∀ k, i < k -> (k ∈ L ++ [i] ↔ k ∈ L) := fun k hk => by simp; intro e; omega
 have hu : ∀ k, i < k -> upd vs i v k = vs k := fun k hk => by unfold upd; rw [if_neg (by omega)]
 intro t
 induction t with
 | done => intro b k ac Φ FA gh pf _ hs _ h hb; exact hs _ _ hx (h hb)
 | plain u next ih =>
  intro b k ac Φ FA gh pf hok hs hi h
  refine ⟨fun hk => ?_, ih _ _ _ _ _ _ _ hok.2.2 hs (by omega) h.2⟩
  rw [hu k hi]; exact h.1 ((hm k hi).1 hk)
 | later u next ih =>
  intro b k ac Φ FA gh pf hok hs hi h
  refine ⟨fun hk => ?_, ih _ _ _ _ _ _ _ hok.2.2.2 hs (by omega) h.2⟩
  rw [hu k hi]; exact h.1 ((hm k hi).1 hk)
 | alloc val F next ih =>
  intro b k ac Φ FA gh pf hok hs hi h
  rcases h with ⟨hk, g, hv, hF, h⟩ | ⟨hk, h⟩
  ·exact Or.inl ⟨(hm k hi).2 hk, g, by rw [hu k hi]; exact hv, hok.2.2.1 g _ _ hE hF, ih g _ _ _ _ _ _ _ (hok.2.2.2 g) hs (by omega) h⟩
  exact Or.inr ⟨fun h' => hk ((hm k hi).1 h'), fun g => ih g _ _ _ _ _ _ _ (hok.2.2.2 g) hs (by omega) (h g)⟩
 | call γ val Φ' next ih =>
  intro b k ac Φ FA gh pf hok hs hi h
  obtain ⟨-, -, -, -, -, hst, hn⟩ := hok
  rcases h with ⟨hb, hk, c, hv, h⟩ | ⟨hk, hp, h⟩
  ·exact Or.inl ⟨hb, (hm k hi).2 hk, c, by rw [hu k hi]; exact hv, ih c _ _ _ _ _ _ _ (hn c) (hst c) (by omega) h⟩
  exact Or.inr ⟨fun h' => hk ((hm k hi).1 h'), fun hb => hs _ _ hx (hp hb), fun c => ih c _ _ _ _ _ _ _ (hn c) (hst c) (by omega) (h c)⟩
theorem Inv.after {i : Nat} {v : Value} {W' : World} (hE : Er W W') : ∀ (t : Tr) (b : Bool) (k : Nat) (ac : Act) (Φ FA : World -> Prop) (gh pf : ZN), Ok P ops Q m Er C t k ac Φ FA gh pf -> (b = true -> Φ W') -> i < k -> Inv L vs W t false k Φ -> Inv (L ++ [i]) (upd vs i v) W' t b k Φ := by
 have hm : ∀ k, i < k -> (k ∈ L ++ [i] ↔ k ∈ L) := fun k hk => by simp; intro e; omega
 have hu : ∀ k, i < k -> upd vs i v k = vs k := fun k hk => by unfold upd; rw [if_neg (by omega)]
 intro t
 induction t with
 | done => intro b k ac Φ FA gh pf _ hp _ h hb; exact hp hb
 | plain u next ih =>
  intro b k ac Φ FA gh pf hok hp hi h
  refine ⟨fun hk => ?_, ih _ _ _ _ _ _ _ hok.2.2 hp (by omega) h.2⟩
  rw [hu k hi]; exact h.1 ((hm k hi).1 hk)
 | later u next ih =>
  intro b k ac Φ FA gh pf hok hp hi h
  refine ⟨fun hk => ?_, ih _ _ _ _ _ _ _ hok.2.2.2 hp (by omega) h.2⟩
  rw [hu k hi]; exact h.1 ((hm k hi).1 hk)
 | alloc val F next ih =>
  intro b k ac Φ FA gh pf hok hp hi h
  rcases h with ⟨hk, g, hv, hF, h⟩ | ⟨hk, h⟩
  ·exact Or.inl ⟨(hm k hi).2 hk, g, by rw [hu k hi]; exact hv, hok.2.2.1 g _ _ hE hF, ih g _ _ _ _ _ _ _ (hok.2.2.2 g) hp (by omega) h⟩
  exact Or.inr ⟨fun h' => hk ((hm k hi).1 h'), fun g => ih g _ _ _ _ _ _ _ (hok.2.2.2 g) hp (by omega) (h g)⟩
 | call γ val Φ' next ih =>
  intro b k ac Φ FA gh pf hok hp hi h
  obtain ⟨-, -, -, -, -, hst, hn⟩ := hok
  rcases h with ⟨hb, -⟩ | ⟨hk, -, h⟩
  ·cases hb
  exact Or.inr ⟨fun h' => hk ((hm k hi).1 h'), hp, fun c => ih c _ _ _ _ _ _ _ (hn c) (fun h => by cases h) (by omega) (h c)⟩
theorem Inv.front {i : Nat} (hcl : Clsd ops L) (hi : i ∉ L) : ∀ (t : Tr) (k : Nat) (ac : Act) (Φ FA : World -> Prop) (gh pf : ZN), Ok P ops Q m Er C t k ac Φ FA gh pf -> i ∈ pf -> Inv L vs W t true k Φ -> Φ W := by
 intro t
 induction t with
 | done => intro k ac Φ FA gh pf _ _ h; exact h rfl
 | plain u next ih => intro k ac Φ FA gh pf hok hp h; exact ih _ _ _ _ _ _ hok.2.2 hp h.2
 | later u next ih => intro k ac Φ FA gh pf hok hp h; exact ih _ _ _ _ _ _ hok.2.2.2 (List.mem_cons_of_mem _ hp) h.2
 | alloc val F next ih =>
  intro k ac Φ FA gh pf hok hp h
  rcases h with ⟨hk, g, hv, hF, h⟩ | ⟨hk, h⟩
  ·exact ih g _ _ _ _ _ _ (hok.2.2.2 g) hp h
  exact ih 0 _ _ _ _ _ _ (hok.2.2.2 0) hp (h 0)
 | call γ val Φ' next ih =>
  intro k ac Φ FA gh pf hok hp h
  rcases h with ⟨-, hk, -⟩ | ⟨-, hp, -⟩
  ·exact absurd (comesAfter_mem hcl m k i hk (List.all_eq_true.1 hok.2.2.1 i hp)) hi
  exact hp rfl
def Agr (ops : Array Oper) (a : Act) (L : ZN) (vs : Nat -> Value) (k : Nat) (ac : Act) : Prop :=
 ac.tmps.size = a.tmps.size /\ ∀ t, (∀ j, j < k -> j ∈ L -> dstAt ops j = some t -> ac.eval (.tmp t) = if t < a.tmps.size then vs j else undef) /\ ((∀ j, j < k -> dstAt ops j ≠ some t) -> ac.eval (.tmp t) = a.eval (.tmp t))
theorem Agr.step (hda : DstApart ops) {k : Nat} {ac : Act} (h : Agr ops a L vs k ac) {v : Value} (hv : k ∈ L -> vs k = v) : Agr ops a L vs (k + 1) (ac.put (dstAt ops k) v) := by
 refine ⟨by rw [put_size]; exact h.1, fun t => ⟨fun j hj hjL ht => ?_, fun hn => ?_⟩⟩
 ·by_cases hjk : j = k
  ·subst hjk
   rw [ht, put_eval_same, h.1, hv hjL]
  rw [Act.eval_put (fun d hd e => by injection e with e; subst e; exact hjk (hda _ _ _ ht hd))]
  exact (h.2 t).1 j (by omega) hjL ht
 rw [Act.eval_put (fun d hd e => by injection e with e; subst e; exact hn k (by omega) hd)]
 exact (h.2 t).2 fun j hj => hn j (by omega)
theorem wanted_congr {o : Oper} {A B : Act} (hs : A.tmps.size = B.tmps.size) (h : ∀ t ∈ o.looksAt ops, A.eval (.tmp t) = B.eval (.tmp t)) : Region.wanted o (yielded ops A.tmps) = Region.wanted o (yielded ops B.tmps) := by
 unfold Region.wanted
 cases hg : o.guard with
 | none => rfl
 | some gw =>
  obtain ⟨j, b⟩ := gw
  have : yielded ops A.tmps j = yielded ops B.tmps j := by
   unfold yielded
   cases hd : (ops[j]?).bind (·.dst) with
   | none => rfl
   | some t =>
    have hl := h t (by unfold Oper.looksAt; rw [hg]; simp [hd])
    simp only [Act.eval] at hl
    rcases Nat.lt_or_ge t A.tmps.size with hlt | hge
    ·have hlt2 := hs ▸ hlt
     simp only [Array.getD_eq_getD_getElem?, Array.getElem?_eq_getElem hlt, Array.getElem?_eq_getElem hlt2, Option.getD_some] at hl
     simp only [Option.bind_some, Array.getElem?_eq_getElem hlt, Array.getElem?_eq_getElem hlt2, hl]
    simp only [Option.bind_some, Array.getElem?_eq_none hge, Array.getElem?_eq_none (hs ▸ hge)]
  simp only [this]
theorem ok_step (hok : okCh ops m = true) (hR : ∀ W, Er W W) (hXE : ∀ W W', Ext W W' -> Er W W') {i : Nat} {o : Oper} (hi : i < m) (ho : ops[i]? = some o) (hiL : i ∉ L) (hLm : ∀ j ∈ L, j < m) (hcl : Clsd ops L) (hrd : ∀ e ∈ o.after, Region.binds .any e = true -> e.on ∈ L) (hC : C W) :
  ∀ (t : Tr) (b : Bool) (k : Nat) (ac : Act) (Φ FA : World -> Prop) (gh pf : ZN), Ok P ops Q m Er C t k ac Φ FA gh pf -> (∀ W W', Ext W W' -> Φ W -> Φ W') -> Inv L vs W t b k Φ -> Agr ops a L vs k ac -> ((∀ j ∈ gh, j ∈ L) -> FA W) -> k <= i -> (b = false -> ∃ j ∈ gh, j ∉ L) ->
   (∃ v W', Det P ops o (acts ops a vs L) W v W' /\ Ext W W' /\ Inv (L ++ [i]) (upd vs i v) W' t b k Φ) \/
   (b = true /\ (∀ j ∈ gh, j ∈ L) /\ Outs P ops o (acts ops a vs L) W (fun v W' => Er W W' /\ Inv (L ++ [i]) (upd vs i v) W' t b k Φ)) := by
 obtain ⟨hns, hm1, hda, hspec⟩ := okCh_spec hok
 have hanc : ∀ j, comesAfter ops m i j = true -> j ∈ L := fun j h => comesAfter_ready hcl ho hrd m j h
 have hm' : ∀ k, k < i -> (k ∈ L ++ [i] ↔ k ∈ L) := fun k hk => by simp; intro e; omega
 have hu : ∀ v k, k < i -> upd vs i v k = vs k := fun v k hk => by unfold upd; rw [if_neg (by omega)]
 have hui : ∀ v, upd vs i v i = v := fun v => by simp [upd]
 -- what the walk's frame shows of operation i is what the run's frame shows
 have hsee : ∀ ac, Agr ops a L vs i ac -> (∀ W v W', Det P ops o ac W v W' -> Det P ops o (acts ops a vs L) W v W') /\ (∀ W T, Outs P ops o ac W T -> Outs P ops o (acts ops a vs L) W T) := by
  intro ac hag
  have hev : ∀ t ∈ o.looksAt ops, ac.eval (.tmp t) = (acts ops a vs L).eval (.tmp t) := by
   intro t ht
   by_cases hex : ∃ j, j < m /\ dstAt ops j = some t
   ·obtain ⟨j, hjm, hj⟩ := hex
    obtain ⟨e, he, hb, rfl⟩ := (hspec i o ho).2.1 hi j t hjm hj ht
    have hjL := hrd e he hb
    have hlt := (hspec i o ho).1 e he hb
    rw [acts_eval_in hda hjL hj]
    exact (hag.2 t).1 _ hlt hjL hj
   have h1 : ∀ j, j < m -> dstAt ops j ≠ some t := fun j hjm hj => hex ⟨j, hjm, hj⟩
   rw [acts_eval_out (fun j hjL => h1 j (hLm j hjL)), (hag.2 t).2 (fun j hj => h1 j (by omega))]
  have hexe : execOp ac.eval o = execOp (acts ops a vs L).eval o := by
   refine execOp_congr o (Region.noSelect_spec hns i o · · ho) (fun x hx => ?_)
   cases x with
   | tmp t => exact hev t (List.mem_append_left _ (List.mem_filterMap.2 ⟨.tmp t, by simpa using hx, rfl⟩))
   | const v => rfl
   | global g => rfl
   | func f => rfl
  have hw := wanted_congr (ops := ops) (o := o) (A := ac) (B := acts ops a vs L) (by rw [acts_size]; exact hag.1) hev
  exact ⟨fun W v W' h => by unfold Det at *; rw [<- hexe, <- hw]; exact h, fun W T h => by unfold Outs GivesOp at *; rw [<- hexe, <- hw]; exact h⟩
 intro t
 induction t with
 | done => intro b k ac Φ FA gh pf hok; have := hok.1; intro _ _ _ _ hk; omega
 | plain v next ih =>
  intro b k ac Φ FA gh pf hok hs hinv hag hFA hki hb
  obtain ⟨hkm, ⟨ok, hok1, hdet⟩, hnx⟩ := hok
  by_cases hk : k = i
  ·subst hk
   rw [ho] at hok1; cases hok1
   exact Or.inl ⟨v, W, (hsee ac hag).1 _ _ _ (hdet W hC), Ext.refl W, fun _ => hui v, Inv.keep (hR W) (Ext.refl W) next b _ _ _ _ _ _ hnx hs (by omega) hinv.2⟩
  rcases ih b (k + 1) _ Φ FA gh pf hnx hs hinv.2 (hag.step hda hinv.1) hFA (by omega) hb with ⟨u, W', h1, h2, h3⟩ | ⟨h1, h2, h3⟩
  ·exact Or.inl ⟨u, W', h1, h2, fun h => by rw [hu u k (by omega)]; exact hinv.1 ((hm' k (by omega)).1 h), h3⟩
  exact Or.inr ⟨h1, h2, h3.mono fun u W' ⟨q1, q2⟩ => ⟨q1, fun h => by rw [hu u k (by omega)]; exact hinv.1 ((hm' k (by omega)).1 h), q2⟩⟩
 | later v next ih =>
  intro b k ac Φ FA gh pf hok hs hinv hag hFA hki hb
  obtain ⟨hkm, hgh, ⟨ok, hok1, hdet⟩, hnx⟩ := hok
  by_cases hk : k = i
  ·subst hk
   rw [ho] at hok1; cases hok1
   have hghL : ∀ j ∈ gh, j ∈ L := fun j hj => hanc j (List.all_eq_true.1 hgh j hj)
   have hbt : b = true := by
    cases b
    ·obtain ⟨j, hj, hjL⟩ := hb rfl
     exact absurd (hghL j hj) hjL
    rfl
   subst hbt
   have hΦ := Inv.front (Q := Q) (C := C) (P := P) (Er := Er) hcl hiL next (k + 1) _ _ _ _ _ hnx (by simp) hinv.2
   exact Or.inl ⟨v, W, (hsee ac hag).1 _ _ _ (hdet W hC hΦ (hFA hghL)), Ext.refl W, fun _ => hui v, Inv.keep (hR W) (Ext.refl W) next _ _ _ _ _ _ _ hnx hs (by omega) hinv.2⟩
  rcases ih b (k + 1) _ Φ FA gh _ hnx hs hinv.2 (hag.step hda hinv.1) hFA (by omega) hb with ⟨u, W', h1, h2, h3⟩ | ⟨h1, h2, h3⟩
  ·exact Or.inl ⟨u, W', h1, h2, fun h => by rw [hu u k (by omega)]; exact hinv.1 ((hm' k (by omega)).1 h), h3⟩
  exact Or.inr ⟨h1, h2, h3.mono fun u W' ⟨q1, q2⟩ => ⟨q1, fun h => by rw [hu u k (by omega)]; exact hinv.1 ((hm' k (by omega)).1 h), q2⟩⟩
 | alloc val F next ih =>
  intro b k ac Φ FA gh pf hok hs hinv hag hFA hki hb
  obtain ⟨hkm, ⟨ok, hok1, hdet⟩, hst, hnx⟩ := hok
  by_cases hk : k = i
  ·subst hk
   rw [ho] at hok1; cases hok1
   rcases hinv with ⟨hkL, -⟩ | ⟨-, hinv⟩
   ·exact absurd hkL hiL
   obtain ⟨g, W', hd, hx, hF⟩ := hdet W hC
   exact Or.inl ⟨val g, W', (hsee ac hag).1 _ _ _ hd, hx, Or.inl ⟨by simp, g, hui _, hF, Inv.keep (hXE _ _ hx) hx (next g) b _ _ _ _ _ _ (hnx g) hs (by omega) (hinv g)⟩⟩
  rcases hinv with ⟨hkL, g, hv, hF, hinv⟩ | ⟨hkL, hinv⟩
  ·rcases ih g b (k + 1) _ Φ _ _ pf (hnx g) hs hinv (hag.step hda (fun _ => hv)) (fun h => ⟨hFA fun j hj => h j (List.mem_cons_of_mem _ hj), hF⟩) (by omega) (fun h => by obtain ⟨j, hj, hjL⟩ := hb h; exact ⟨j, List.mem_cons_of_mem _ hj, hjL⟩) with ⟨u, W', h1, h2, h3⟩ | ⟨h1, h2, h3⟩
   ·exact Or.inl ⟨u, W', h1, h2, Or.inl ⟨(hm' k (by omega)).2 hkL, g, by rw [hu u k (by omega)]; exact hv, hst g _ _ (hXE _ _ h2) hF, h3⟩⟩
   exact Or.inr ⟨h1, fun j hj => h2 j (List.mem_cons_of_mem _ hj), h3.mono fun u W' ⟨q1, q2⟩ => ⟨q1, Or.inl ⟨(hm' k (by omega)).2 hkL, g, by rw [hu u k (by omega)]; exact hv, hst g _ _ q1 hF, q2⟩⟩⟩
  have hall : ∀ g, ∃ v W', Det P ops o (acts ops a vs L) W v W' /\ Ext W W' /\ Inv (L ++ [i]) (upd vs i v) W' (next g) b (k + 1) Φ := fun g => by
   rcases ih g b (k + 1) _ Φ _ _ pf (hnx g) hs (hinv g) (hag.step hda (fun h => absurd h hkL)) (fun h => absurd (h k (by simp)) hkL) (by omega) (fun h => ⟨k, by simp, hkL⟩) with h | ⟨-, h2, -⟩
   ·exact h
   exact absurd (h2 k (by simp)) hkL
  obtain ⟨u, W', h1, h2, -⟩ := hall 0
  refine Or.inl ⟨u, W', h1, h2, Or.inr ⟨fun h => hkL ((hm' k (by omega)).1 h), fun g => ?_⟩⟩
  obtain ⟨u2, W2, k1, -, k3⟩ := hall g
  obtain ⟨rfl, rfl⟩ := h1.same k1
  exact k3
 | call γ val Φ' next ih =>
  intro b k ac Φ FA gh pf hok hs hinv hag hFA hki hb
  obtain ⟨hkm, hgh, hpf, ⟨ok, hok1, hout⟩, hne, hst, hnx⟩ := hok
  by_cases hk : k = i
  ·subst hk
   rw [ho] at hok1; cases hok1
   have hghL : ∀ j ∈ gh, j ∈ L := fun j hj => hanc j (List.all_eq_true.1 hgh j hj)
   have hbt : b = true := by
    cases b
    ·obtain ⟨j, hj, hjL⟩ := hb rfl
     exact absurd (hghL j hj) hjL
    rfl
   subst hbt
   rcases hinv with ⟨-, hkL, -⟩ | ⟨-, hΦ, hinv⟩
   ·exact absurd hkL hiL
   refine Or.inr ⟨rfl, hghL, ((hsee ac hag).2 _ _ (hout W hC (hΦ rfl) (hFA hghL))).mono ?_⟩
   rintro v W' ⟨hE, c, rfl, hΦ'⟩
   exact ⟨hE, Or.inl ⟨rfl, by simp, c, hui _, Inv.after hE (next c) true _ _ _ _ _ _ (hnx c) (fun _ => hΦ') (by omega) (hinv c)⟩⟩
  rcases hinv with ⟨hbt, hkL, c, hv, hinv⟩ | ⟨hkL, hp, hinv⟩
  ·rcases ih c true (k + 1) _ (Φ' c) _ _ pf (hnx c) (hst c) hinv (hag.step hda (fun _ => hv)) (fun h => hFA fun j hj => h j (List.mem_cons_of_mem _ hj)) (by omega) (fun h => by cases h) with ⟨u, W', h1, h2, h3⟩ | ⟨h1, h2, h3⟩
   ·exact Or.inl ⟨u, W', h1, h2, Or.inl ⟨hbt, (hm' k (by omega)).2 hkL, c, by rw [hu u k (by omega)]; exact hv, h3⟩⟩
   exact Or.inr ⟨hbt, fun j hj => h2 j (List.mem_cons_of_mem _ hj), h3.mono fun u W' ⟨q1, q2⟩ => ⟨q1, Or.inl ⟨hbt, (hm' k (by omega)).2 hkL, c, by rw [hu u k (by omega)]; exact hv, q2⟩⟩⟩
  have hall : ∀ c, ∃ v W', Det P ops o (acts ops a vs L) W v W' /\ Ext W W' /\ Inv (L ++ [i]) (upd vs i v) W' (next c) false (k + 1) (Φ' c) := fun c => by
   rcases ih c false (k + 1) _ (Φ' c) _ _ pf (hnx c) (hst c) (hinv c) (hag.step hda (fun h => absurd h hkL)) (fun h => hFA fun j hj => h j (List.mem_cons_of_mem _ hj)) (by omega) (fun _ => ⟨k, by simp, hkL⟩) with h | ⟨h1, -⟩
   ·exact h
   cases h1
  obtain ⟨c0⟩ := hne
  obtain ⟨u, W', h1, hx, -⟩ := hall c0
  refine Or.inl ⟨u, W', h1, hx, Or.inr ⟨fun h => hkL ((hm' k (by omega)).1 h), fun hb => hs _ _ hx (hp hb), fun c => ?_⟩⟩
  obtain ⟨u2, W2, k1, -, k3⟩ := hall c
  obtain ⟨rfl, rfl⟩ := h1.same k1
  exact k3
theorem Ok.fin (hcov : ∀ j, j < m -> j ∈ L) (hC : C W) : ∀ (t : Tr) (k : Nat) (ac : Act) (Φ FA : World -> Prop) (gh pf : ZN), Ok P ops Q m Er C t k ac Φ FA gh pf -> Inv L vs W t true k Φ -> FA W -> ac = acts ops a vs (List.range k) ->
  wpList P ops Q (ops.toList.drop m) (acts ops a vs (List.range m)) W := by
 have hput : ∀ (k : Nat) (ac : Act) (v : Value), ac = acts ops a vs (List.range k) -> vs k = v -> ac.put (dstAt ops k) v = acts ops a vs (List.range (k + 1)) := fun k ac v h1 h2 => by
  rw [List.range_succ, acts_snoc, h1, h2]
 intro t
 induction t with
 | done => intro k ac Φ FA gh pf hok hinv hFA he; obtain ⟨rfl, hok⟩ := hok; rw [he] at hok; exact hok W hC (hinv rfl) hFA
 | plain v next ih => intro k ac Φ FA gh pf hok hinv hFA he; exact ih _ _ _ _ _ _ hok.2.2 hinv.2 hFA (hput k ac v he (hinv.1 (hcov k hok.1)))
 | later v next ih => intro k ac Φ FA gh pf hok hinv hFA he; exact ih _ _ _ _ _ _ hok.2.2.2 hinv.2 hFA (hput k ac v he (hinv.1 (hcov k hok.1)))
 | alloc val F next ih =>
  intro k ac Φ FA gh pf hok hinv hFA he
  rcases hinv with ⟨hk, g, hv, hF, hinv⟩ | ⟨hk, -⟩
  ·exact ih g _ _ _ _ _ _ (hok.2.2.2 g) hinv ⟨hFA, hF⟩ (hput k ac _ he hv)
  exact absurd (hcov k hok.1) hk
 | call γ val Φ' next ih =>
  intro k ac Φ FA gh pf hok hinv hFA he
  obtain ⟨hkm, -, -, -, -, -, hnx⟩ := hok
  rcases hinv with ⟨-, hk, c, hv, hinv⟩ | ⟨hk, -⟩
  ·exact ih c _ _ _ _ _ _ (hnx c) hinv hFA (hput k ac _ he hv)
  exact absurd (hcov k hkm) hk
theorem wp_region_chn {id : Nat} {w : World} (hm : P.follows .mixedOrders = true) (hok : okCh ops m = true) (hR : ∀ W, Er W W) (hXE : ∀ W W', Ext W W' -> Er W W') (hCE : ∀ W W', C W -> Er W W' -> C W') {Φ : World -> Prop} (hC : C w.drew) (hΦ : Φ w.drew) (hs : ∀ W W', Ext W W' -> Φ W -> Φ W')
  (h : ∃ t, Ok P ops Q m Er C t 0 a Φ (fun _ => True) [] []) : (Code.region id ops true).wp P Q a w := by
 obtain ⟨t, ht⟩ := h
 refine wp_region_any hm ?_
 refine wpAny_core (m := m) (fun L vs W => C W /\ Inv L vs W t true 0 Φ) hok ?_ ?_ ops.size [] (fun _ => undef) _ _ (by simp) (fun j hj => ?_) List.nodup_nil (fun j hj => by simp at hj) ?_ (fun j hj => by simp at hj) ⟨hC, Inv.start t true 0 Φ fun _ => hΦ⟩
 ·intro i o hi ho L vs W hiL hLm hcl hrd ⟨hC, hinv⟩
  rcases ok_step (Q := Q) hok hR hXE hi ho hiL hLm hcl hrd hC t true 0 a Φ _ [] [] ht hs hinv ⟨rfl, fun t => ⟨fun j hj => absurd hj (by omega), fun _ => rfl⟩⟩ (fun _ => trivial) (by omega) (fun h => by cases h) with ⟨v, W', h1, h2, h3⟩ | ⟨-, -, h3⟩
  ·exact h1.outs ⟨hCE _ _ hC (hXE _ _ h2), h3⟩
  exact h3.mono fun v W' ⟨q1, q2⟩ => ⟨hCE _ _ hC q1, q2⟩
 ·intro L vs W hcov ⟨hC, hinv⟩
  exact Ok.fin hcov hC t 0 a Φ _ [] [] ht hinv trivial rfl
 ·simp [hj]
 exact Nat.le_trans (List.length_filter_le _ _) (by simp)
end
end Go.Proofs.YtefjomofjejklaaGreatDoor
