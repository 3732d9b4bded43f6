/-
  Texts of the claim, joined: CExp1, Defs, CNode, Loss, SWb, CNodes, Prf, Term.
-/
import Derived.Test.YtefjomofjejklaaGreatDoorDv14
namespace Go.Proofs.YtefjomofjejklaaGreatDoor
set_option maxRecDepth 100000
set_option maxHeartbeats 32000000
open Go.RowKit Go.Maps
def natF (D : BA -> Option Nat) : BA -> Option Value := fun s => (D s).map fun (n : Nat) => Value.int .i64 (n : Int)
mutual
theorem szE_le {D : BA -> Option Nat} (hD : ∀ s n, D s = some n -> n <= 2001) : (e : Ex) -> szE D e <= 2001
 | .mk op name _ _ _ args => by
  rw [szE]
  have hl := szL_le hD args 1 (by omega)
  by_cases h3 : op = 3
  ·rw [if_pos h3]
   cases hd : D name with
   | none => exact hl
   | some n => exact hD name n hd
  rw [if_neg h3]
  exact hl
theorem szL_le {D : BA -> Option Nat} (hD : ∀ s n, D s = some n -> n <= 2001) : (l : List Ex) -> ∀ n, n <= 2001 -> szL D n l <= 2001
 | [], n, hn => by simp [szL]; omega
 | e :: r, n, hn => by
  rw [szL]
  exact szL_le hD r _ (by omega)
end
def CExpL (D : BA -> Option Nat) (na : Nat) (args : List Ex) (w1 : World) (t i : Value) (wr : World) : Prop := ∃ k : Nat, i = .int .i64 k /\ k <= na /\ t = .int .i64 ((szL D 1 (args.take k) : Nat) : Int) /\ szL D 1 (args.take k) <= 2001 /\ Ext w1 wr
theorem cexp_calls (D : BA -> Option Nat) (hD : ∀ s n, D s = some n -> n <= 2001) (bm nm : Nat) : ∀ (m : Nat) (e : Ex) (ev : Value) (w : World), e.size <= m -> m <= 1000000000000000 -> e.fits -> MapAt w 9 bm nm (strF (natF D)) -> IsEx w e ev ->
  Calls Tryz.prog 83 #[.map (some bm), ev] w (GivesE (.int .i64 (szE D e)) w) := by
 intro m
 induction m with
 | zero => intro e ev w h; have := size_pos e; omega
 | succ m ihm =>
  intro e ev w hm hMM hfit hmap he
  obtain ⟨aw, nw, cw, aa, na, ca, rfl, hw, hna, hca, ha, hx⟩ := he.parts
  obtain ⟨hnm, hfa⟩ := fits_parts2 hfit
  have hS : e.size = 1 + sizes e.args := e.size_eq
  have hla := length_le_sizes e.args
  have hna2 : na <= 1000000000000000 := by omega
  have hszm : sizes e.args <= m := by omega
  have HM := hI hmap
  have HX := hI hx
  have HNA := hI hna
  have HFA := hI hfa
  have HSL := hI (szE_le hD)
  have HEQ := hI (szE_eq' D e)
  have IHM := hI ihm
  clear hw hna hca ha hx he hS hla ihm hm hfa hfit hmap
  unfold exV
  obtain ⟨wa, hwa⟩ : ∃ wa, wa = w.alloc (.cells #[.int .i64 e.op, .string e.name, .slice aw nw cw, .int .i64 e.lo, .int .i64 e.hi, .slice aa na ca] 45) := ⟨_, rfl⟩
  have hxa : Ext w wa := by rw [hwa]; exact (Ext.refl _).alloc _
  have hb1 : wa.heap[w.heap.size]? = some (.cells #[.int .i64 e.op, .string e.name, .slice aw nw cw, .int .i64 e.lo, .int .i64 e.hi, .slice aa na ca] 45 (0, 0)) := by rw [hwa]; exact alloc_new w _
  have HXA := hI hxa
  have HB1 := hI hb1
  obtain ⟨f0, f1, f2, f3, f4, f5, ff⟩ := blk6 hb1
  have hltw := blk_lt hb1
  have HMA := hI (HM.out.ext hxa)
  clear hxa hb1
  by_cases hdef : e.op = 3 /\ (D e.name).isSome = true
  ·obtain ⟨h3, hds⟩ := hdef
   obtain ⟨q, hq⟩ := Option.isSome_iff_exists.1 hds
   have t3 : (e.op == 3) = true := by simp [h3]
   have HQ := hI (show szE D e = q by rw [HEQ.out, if_pos h3, hq])
   have HF := hI (show strF (natF D) (.string e.name.data.toList) = some (.int .i64 q) by rw [strF_at, natF, hq]; rfl)
   clear hds hq h3 HEQ
   go_enter Tryz.func83, Tryz.ntmps83
   go_upto_region 2 with fail
   rw [<- hwa]
   clear hwa
   go_wp2_with (at_lookup; refine wpList_map_ok _ rfl _ _ 136 rfl 9 3 keyedStr uMapSI (zeroInt _) bm nm _ rfl HMA.out _ _ rfl (keyStr hnm) trivial ?_; rw [HF.out])
   go_ret
   exact givesE_of (by rw [HQ.out]) HXA.out
  have HQ := hI (show szE D e = szL D 1 e.args by
   rw [HEQ.out]
   by_cases h3 : e.op = 3
   ·rw [if_pos h3]
    cases hd : D e.name with
    | none => rfl
    | some q => exact absurd ⟨h3, by rw [hd]; rfl⟩ hdef
   rw [if_neg h3])
  clear HEQ
  by_cases h3 : e.op = 3
  case' pos =>
   have t3 : (e.op == 3) = true := by simp [h3]
   have HF := hI (show strF (natF D) (.string e.name.data.toList) = none by
    rw [strF_at, natF]
    cases hd : D e.name with
    | none => rfl
    | some q => exact absurd ⟨h3, by rw [hd]; rfl⟩ hdef)
   clear h3 hdef
   go_enter Tryz.func83, Tryz.ntmps83
   go_upto_region 2 with fail
   rw [<- hwa]
   clear hwa
   go_wp2_with (at_lookup; refine wpList_map_ok _ rfl _ _ 136 rfl 9 3 keyedStr uMapSI (zeroInt _) bm nm _ rfl HMA.out _ _ rfl (keyStr hnm) trivial ?_; rw [HF.out])
   clear HF
  case' neg =>
   have t3 : (e.op == 3) = false := by simp [h3]
   clear h3 hdef
   go_enter Tryz.func83, Tryz.ntmps83
   go_wp2_with fail
   rw [<- hwa]
   clear hwa
  all_goals
   clear f0 f1 f2 f3 f4 f5 ff
   go_loopw [7, 25] (CExpL D na e.args wa) (fun _ i _ => na - (intOf i).toNat)
   case atStart => exact ⟨0, rfl, by omega, by simp [szL], by simp [szL], Ext.refl _⟩
   case round =>
    obtain ⟨k, rfl, hk, rfl, hle, hxr⟩ := hrel
    have HXR := hI hxr
    clear hxr
    obtain ⟨N, hN⟩ : ∃ N, N = szL D 1 (e.args.take k) := ⟨_, rfl⟩
    rw [<- hN] at hle ⊢
    have HNN := hI hN
    clear hN
    by_cases hkn : k < na
    ·have hka : k < e.args.length := by have := HNA.out; omega
     have t1 : decide ((k : Int) < (na : Int)) = true := decide_eq_true (by omega)
     obtain ⟨b, off, rfl, aw1, nw1, cw1, aa1, na1, ca1, h0, h1, h2, h3, h4, h5, h6⟩ := ExsD.at e.args _ (ExsD.ext (HXA.out.trans HXR.out) e.args _ HX.out) k hka
     have H6 := hI h6
     have hs1 := sizes_take_succ e.args k hka
     have hs2 := sizes_take_le e.args (k + 1)
     have hk1 : e.args[k].size <= m := by omega
     have HTS := hI (szL_take_succ D e.args 1 k hka)
     have hel := HSL.out e.args[k]
     have hblt := block_lt h0
     simp only at hblt
     clear h6 hs1 hs2
     obtain ⟨wx, hwx⟩ : ∃ wx, wx = wr.alloc (.cells #[.int .i64 e.args[k].op, .string e.args[k].name, .slice aw1 nw1 cw1, .int .i64 e.args[k].lo, .int .i64 e.args[k].hi, .slice aa1 na1 ca1] 45) := ⟨_, rfl⟩
     have HXX := hI (show Ext wr wx by rw [hwx]; exact (Ext.refl _).alloc _)
     go_wp2_with fail
     rw [<- hwx]
     clear hwx
     refine (IHM.out e.args[k] _ _ hk1 (by omega) (HFA.out _ (List.getElem_mem hka)) (HMA.out.ext (HXR.out.trans HXX.out)) (H6.out.ext HXX.out)).mono ?_
     rintro r w3 ⟨rfl, hx3⟩
     have HX3 := hI (HXR.out.trans (HXX.out.trans hx3))
     clear hx3 h0 h1 h2 h3 h4 h5
     go_wp2_with fail
     all_goals
      go_roundw
      case rel => exact ⟨k + 1, by go_num, by omega, by rw [HTS.out, <- HNN.out]; congr 1; omega, by rw [HTS.out]; omega, HX3.out⟩
      case measure => simp [intOf]; omega
    have t1 : decide ((k : Int) < (na : Int)) = false := decide_eq_false (by omega)
    have HR := hI (show N = szE D e by rw [HQ.out, HNN.out, List.take_of_length_le (by have := HNA.out; omega)])
    have HXE := hI (HXA.out.trans HXR.out)
    go_wp2_with fail
    go_ret
    exact givesE_of (by rw [<- HR.out]) HXE.out
theorem uMapSE : Tryz.prog.underlying 131 = some (.map 9 45) := by kernel_rfl
theorem zeroEx (w : World) : (zeroValue 45).run Tryz.prog w = .ok (.agg #[.int .i64 0, .string ⟨#[]⟩, .slice none 0 0, .int .i64 0, .int .i64 0, .slice none 0 0]) w := by kernel_rfl
theorem defAt_take {l : List Cla} {k : Nat} (hk : k < l.length) (s : BA) : defAt (l.take (k + 1)) s = match defAt (l.take k) s with | some d => some d | none => if l[k].kind = 1 /\ l[k].name = s then some k else none := by
 have h := first_take (l := l.map Cla.dfn) (k := k) (by simpa using hk) s
 rw [<- List.map_take, <- List.map_take, firstAt_dfn, firstAt_dfn] at h
 rw [h]
 cases defAt (l.take k) s <;> simp [Cla.dfn]
def DefsG (w : World) (l : List Cla) (g : BA -> Option Value) : Prop := ∀ s, (defAt l s = none -> g s = none) /\ ∀ d, defAt l s = some d -> ∃ v, g s = some v /\ IsEx w (l.getD d cla0).cond v
theorem DefsG.ext {w w' : World} {l : List Cla} {g : BA -> Option Value} (h : DefsG w l g) (hx : Ext w w') : DefsG w' l g := fun s => ⟨(h s).1, fun d hd => by obtain ⟨v, h1, h2⟩ := (h s).2 d hd; exact ⟨v, h1, h2.ext hx⟩⟩
def DefsAt (w : World) (l : List Cla) (b n : Nat) : Prop := ∃ g, MapAt w 9 b n (strF g) /\ DefsG w l g
theorem DefsAt.ext {w w' : World} {l : List Cla} {b n : Nat} (h : DefsAt w l b n) (hx : Ext w w') : DefsAt w' l b n := by
 obtain ⟨g, h1, h2⟩ := h
 exact ⟨g, h1.ext hx, h2.ext hx⟩
theorem getD_take {l : List Cla} {k d : Nat} (hd : d < k) : (l.take k).getD d cla0 = l.getD d cla0 := by simp [List.getD, hd]
theorem DefsG.skip {w : World} {l : List Cla} {k : Nat} {g : BA -> Option Value} (hk : k < l.length) (h : DefsG w (l.take k) g) (hs : l[k].kind ≠ 1 \/ defAt (l.take k) l[k].name ≠ none) : DefsG w (l.take (k + 1)) g := by
 intro s
 have hdd : ∀ d, defAt (l.take k) s = some d -> d < k := fun d hd => by have := defAt_lt hd; simp at this; omega
 have key : defAt (l.take (k + 1)) s = defAt (l.take k) s := by
  rw [defAt_take hk]
  cases hd : defAt (l.take k) s with
  | some d => rfl
  | none =>
   rw [if_neg]
   rintro ⟨h1, h2⟩
   rcases hs with h3 | h3
   ·exact h3 h1
   rw [h2] at h3; exact h3 hd
 rw [key]
 refine ⟨(h s).1, fun d hd => ?_⟩
 have := hdd d hd
 rw [getD_take (by omega), <- getD_take (k := k) this]
 exact (h s).2 d hd
theorem DefsG.step {w : World} {l : List Cla} {k : Nat} {g : BA -> Option Value} (hk : k < l.length) (h : DefsG w (l.take k) g) (hk1 : l[k].kind = 1) (hn : defAt (l.take k) l[k].name = none) {v : Value} (hv : IsEx w l[k].cond v) : DefsG w (l.take (k + 1)) (upS g l[k].name (some v)) := by
 intro s
 rw [defAt_take hk]
 by_cases e : s = l[k].name
 ·subst e
  rw [hn, upS_same]
  simp only [hk1, and_self, if_true]
  refine ⟨fun h => by simp at h, fun d hd => ?_⟩
  obtain rfl : k = d := by simpa using hd
  rw [getD_take (by omega), getD_cla hk]
  exact ⟨v, rfl, hv⟩
 rw [upS_other _ _ e]
 cases hd : defAt (l.take k) s with
 | none =>
  have : ¬ (l[k].kind = 1 /\ l[k].name = s) := fun h => e h.2.symm
  simp only [if_neg this]
  exact ⟨fun _ => (h s).1 hd, fun d hd' => by cases hd'⟩
 | some d =>
  have hdk : d < k := by have := defAt_lt hd; simp at this; omega
  refine ⟨fun h => by simp at h, fun d' hd' => ?_⟩
  obtain rfl : d = d' := by simpa using hd'
  rw [getD_take (by omega), <- getD_take (k := k) hdk]
  exact (h s).2 d hd
def DefsQ (l : List Cla) (n : Nat) (w : World) (e : Ending) (w' : World) : Prop := ∃ b, e = .returned (.map (some b)) /\ DefsAt w' l b n /\ Ext w w'
theorem definitions_calls (l : List Cla) (a : OA) (n c : Nat) (w : World) (hl : IsClas w l a n c) (hn : n <= 1000000) (hsz : ∀ x ∈ l, x.name.size <= 1000000000000000) :
  Calls Tryz.prog 78 #[.slice a n c] w (DefsQ l n w) := by
 have HL := hI hl
 have HN := hI hl.len
 have HSZ := hI hsz
 clear hl hsz
 have hmm := @run_makeMap Tryz.prog
 have HM0 := hI (MapAt.made w 9)
 have HX0 := hI ((Ext.refl w).alloc (.map #[] 0))
 obtain ⟨bf, hbf⟩ : ∃ bf : Nat, bf = w.heap.size := ⟨_, rfl⟩
 rw [<- hbf] at HM0
 have HBF := hI hbf
 go_enter Tryz.func78, Tryz.ntmps78
 go_wp2_with fail
 rw [<- hbf]
 clear hbf hmm
 go_loopw [11] (fun i wr => ∃ (k : Nat) (g : BA -> Option Value), k <= n /\ i = .int .i64 k /\ MapAt wr 9 bf k (strF g) /\ DefsG w (l.take k) g /\ Ext w wr) (fun i _ => n - (intOf i).toNat)
 case atStart =>
  refine ⟨0, fun _ => none, by omega, rfl, HM0.out.congr fun x => ?_, fun s => ⟨fun _ => rfl, fun d hd => ?_⟩, HX0.out⟩
  ·cases x <;> simp [strF]
  simp [defAt] at hd
 case round =>
  obtain ⟨k, g, hk, rfl, hmap, hg, hx⟩ := hrel
  have HMP := hI hmap
  have HX := hI hx
  have HG := hI hg
  have hbw := hmap.lt
  clear hmap hx hg HM0 HX0
  by_cases hlt : k < n
  ·have hlt' : k < l.length := by have := HN.out; omega
   have t1 : decide ((k : Int) < (n : Int)) = true := decide_eq_true (by omega)
   obtain ⟨cb, coff, v, rfl, hcla, hrow⟩ := HL.out.at hlt'
   obtain ⟨c0, c1, c2, c3, c4, c5, c6, c7, c8, c9⟩ := (hrow.mono HX.out.sub).ten
   have hns : v.name.size <= 1000000000000000 := by rw [hcla.2.1]; exact HSZ.out _ (List.getElem_mem hlt')
   have hblt := block_lt c0
   simp only at hblt
   have HEX := hI (show IsEx w l[k].cond (.agg #[.int .i64 v.x.op, .string v.x.name, .slice v.x.aw v.x.nw v.x.cw, .int .i64 v.x.lo, .int .i64 v.x.hi, .slice v.x.aa v.x.na v.x.ca]) from hcla.2.2.1)
   have HEK := hI (show l[k].kind = v.kind from hcla.1.symm)
   have HEN := hI (show l[k].name = v.name from hcla.2.1.symm)
   have HST := hI (fun h1 h2 => HG.out.step hlt' h1 h2 HEX.out)
   have HSK := hI (HG.out.skip hlt')
   rw [HEK.out, HEN.out] at HST HSK
   clear hcla hrow
   cases hfa : defAt (l.take k) v.name with
   | none =>
    have HF := hI (show strF g (.string v.name.data.toList) = none by rw [strF_at]; exact (HG.out _).1 hfa)
    cases hkd : (v.kind == 1)
    ·have HKN := hI (HSK.out (Or.inl (by simpa using hkd)))
     go_wp2_with (at_lookup; refine wpList_map_ok _ rfl _ _ 131 rfl 9 45 keyedStr uMapSE (zeroEx _) bf k _ rfl (HMP.out.ext ((Ext.refl wr).alloc _)) _ _ rfl (keyStr hns) trivial ?_; rw [HF.out])
     go_roundw
     case rel => exact ⟨k + 1, g, by omega, by go_num, (HMP.out.ext (((Ext.refl wr).alloc _).alloc _)).more (by omega), HKN.out, (HX.out.alloc _).alloc _⟩
     case measure => simp [intOf]; omega
    have HKN := hI (HST.out (by simpa using hkd) hfa)
    clear hfa
    go_wp2_with (first
     | (at_lookup; refine wpList_map_ok _ rfl _ _ 131 rfl 9 45 keyedStr uMapSE (zeroEx _) bf k _ rfl (HMP.out.ext ((Ext.refl wr).alloc _)) _ _ rfl (keyStr hns) trivial ?_; rw [HF.out])
     | (at_mapUpdate; refine wpList_map_put _ rfl _ _ _ 131 rfl 9 45 keyedStr uMapSE bf k _ rfl (HMP.out.ext (((Ext.refl wr).alloc _).alloc _)) ?c3 _ _ _ rfl rfl (keyStr hns) trivial ?_))
    case c3 => unfold maxLen; omega
    intro w1 hm1 hc1
    have HM1 := hI (hm1.congr (setF_str g v.name _))
    have HX1 := hI (hc1.ext ((HX.out.alloc _).alloc _) (by rw [<- HBF.out]; simp))
    clear hm1 hc1
    go_wp2_with fail
    go_roundw
    case rel => exact ⟨k + 1, _, by omega, by go_num, HM1.out, HKN.out, HX1.out⟩
    case measure => simp [intOf]; omega
   | some d =>
    obtain ⟨u, hu, hux⟩ := (HG.out v.name).2 d hfa
    obtain ⟨aw, nw, cw, aa, na, ca, rfl, -, -, -, -, -⟩ := hux.parts
    have HF := hI (show strF g (.string v.name.data.toList) = some _ by rw [strF_at]; exact hu)
    have HKN := hI (HSK.out (Or.inr (by rw [hfa]; simp)))
    unfold exV at HF
    clear hfa hu hux
    cases hkd : (v.kind == 1)
    all_goals
     go_wp2_with (at_lookup; refine wpList_map_ok _ rfl _ _ 131 rfl 9 45 keyedStr uMapSE (zeroEx _) bf k _ rfl (HMP.out.ext ((Ext.refl wr).alloc _)) _ _ rfl (keyStr hns) trivial ?_; rw [HF.out])
     go_roundw
     case rel => exact ⟨k + 1, g, by omega, by go_num, (HMP.out.ext (((Ext.refl wr).alloc _).alloc _)).more (by omega), HKN.out, (HX.out.alloc _).alloc _⟩
     case measure => simp [intOf]; omega
  have t1 : decide ((k : Int) < (n : Int)) = false := decide_eq_false (by omega)
  have hkn : k = n := by omega
  have HGE := hI (show DefsAt wr l bf n from ⟨g, by rw [<- hkn]; exact HMP.out, by have := HG.out.ext HX.out; rwa [List.take_of_length_le (by have := HN.out; omega)] at this⟩)
  clear hkn
  go_wp2_with fail
  go_ret
  exact ⟨bf, rfl, HGE.out, HX.out⟩
def kindFor (op : Int) : Int := if op = 3 then 3 else if op = 4 then 1 else if op = 5 then 2 else 0
def cnodeErr (s : List Attr) (l : List Cla) (op : Int) (name : BA) (words : ZB) (lo hi : Int) : Int :=
 if kindFor op = 0 then 0 else match attrAt s name with
 | none => if op = 3 /\ (defAt l name).isSome = true then 0 else 7
 | some i => if (s.getD i attr0).kind ≠ kindFor op then 9 else if (words.all fun x => decide (x ∈ (s.getD i attr0).words)) = false then 7 else if lo < (s.getD i attr0).lo \/ (s.getD i attr0).hi < hi then 1 else 0
theorem cnode_none {s : List Attr} {l : List Cla} {op : Int} {name : BA} {words : ZB} {lo hi : Int} (hk : kindFor op ≠ 0) (h : attrAt s name = none) : cnodeErr s l op name words lo hi = if op = 3 /\ (defAt l name).isSome = true then 0 else 7 := by
 unfold cnodeErr; rw [if_neg hk, h]
theorem cnode_some {s : List Attr} {l : List Cla} {op : Int} {name : BA} {words : ZB} {lo hi : Int} (hk : kindFor op ≠ 0) {i : Nat} (h : attrAt s name = some i) (hi' : i < s.length) : cnodeErr s l op name words lo hi =
  if s[i].kind ≠ kindFor op then 9 else if (words.all fun x => decide (x ∈ s[i].words)) = false then 7 else if lo < s[i].lo \/ s[i].hi < hi then 1 else 0 := by
 unfold cnodeErr; rw [if_neg hk, h]
 simp only [getD_attr hi']
theorem cnode_calls (s : List Attr) (sv : Value) (l : List Cla) (bm nm : Nat) (e : Ex) (ev : Value) (w : World) (hs : IsSchema w s sv) (hf : ∀ x ∈ s, x.fits) (hsl : s.length <= 1000000000000000) (hd : DefsAt w l bm nm) (he : IsEx w e ev) (hew : e.words.length <= 1000000000000000) (hen : e.name.size <= 1000000000000000) :
  Calls Tryz.prog 169 #[sv, .map (some bm), ev] w (GivesE (.int .i64 (cnodeErr s l e.op e.name e.words e.lo e.hi)) w) := by
 obtain ⟨sa, sn, sc, rfl, hsn⟩ := hs.slice
 obtain ⟨aw, nw, cw, aa, na, ca, rfl, hw, hna, hca, ha, hx⟩ := he.parts
 have HS := hI hs
 have HF := hI hf
 have HD := hI hd
 have HW := hI hw
 have HSN := hI hsn
 have HNW := hI hw.1
 have hnw : nw <= 1000000000000000 := by rw [hw.1]; exact hew
 have hsn2 : sn <= 1000000000000000 := by omega
 clear hs hf hd hw hsn he hna hca ha hx hew
 unfold exV
 obtain ⟨op, name, words, lo, hi, args⟩ := e
 simp only [Ex.op, Ex.name, Ex.words, Ex.lo, Ex.hi] at *
 obtain ⟨wa, hwa⟩ : ∃ wa, wa = (w.alloc (.cells #[.slice sa sn sc] 24)).alloc (.cells #[.int .i64 op, .string name, .slice aw nw cw, .int .i64 lo, .int .i64 hi, .slice aa na ca] 45) := ⟨_, rfl⟩
 have hxa : Ext w wa := by rw [hwa]; exact ((Ext.refl _).alloc _).alloc _
 have hb0 : wa.heap[w.heap.size]? = some (.cells #[.slice sa sn sc] 24 (0, 0)) := by rw [hwa]; exact blk_alloc (alloc_new w _)
 have hb1 : wa.heap[w.heap.size + 1]? = some (.cells #[.int .i64 op, .string name, .slice aw nw cw, .int .i64 lo, .int .i64 hi, .slice aa na ca] 45 (0, 0)) := by rw [hwa]; exact alloc_atR (by simp)
 have HI := hI (sIndex_calls s _ name wa (HS.out.ext hxa) (by have := HSN.out; omega))
 have HXA := hI hxa
 have HB0 := hI hb0
 have HB1 := hI hb1
 obtain ⟨E, hE⟩ : ∃ E, E = cnodeErr s l op name words lo hi := ⟨_, rfl⟩
 rw [<- hE]
 have HE := hI hE
 clear hE
 obtain ⟨a0, af⟩ := blk1 hb0
 obtain ⟨b0, b1, b2, b3, b4, b5, bf⟩ := blk6 hb1
 have hlt1 := blk_lt hb1
 clear hxa hb0 hb1
 by_cases hop : op = 3 \/ op = 4 \/ op = 5
 case neg =>
  have HR := hI (show E = 0 by
   rw [HE.out, cnodeErr, if_pos]
   unfold kindFor
   rw [if_neg (by omega), if_neg (by omega), if_neg (by omega)])
  have e3 : (op == 3) = false := by simp; omega
  have e4 : (op == 4) = false := by simp; omega
  have e5 : (op == 5) = false := by simp; omega
  clear hop
  go_enter Tryz.func169, Tryz.ntmps169
  go_upto_region 1 with fail
  rw [<- hwa]
  clear hwa
  go_wp2_with fail
  go_ret
  exact givesE_of (by rw [HR.out]) HXA.out
 obtain ⟨kd, hkd⟩ : ∃ kd : Int, (op = 3 /\ kd = 3) \/ (op = 4 /\ kd = 1) \/ (op = 5 /\ kd = 2) := by
  rcases hop with h | h | h
  ·exact ⟨3, Or.inl ⟨h, rfl⟩⟩
  ·exact ⟨1, Or.inr (Or.inl ⟨h, rfl⟩)⟩
  exact ⟨2, Or.inr (Or.inr ⟨h, rfl⟩)⟩
 have hkf : kindFor op = kd /\ kd ≠ 0 := by
  rcases hkd with ⟨rfl, rfl⟩ | ⟨rfl, rfl⟩ | ⟨rfl, rfl⟩ <;> exact ⟨rfl, by decide⟩
 clear hop
 have HK0 := hI (show kindFor op ≠ 0 by rw [hkf.1]; exact hkf.2)
 have HKF := hI hkf.1
 clear hkf
 cases ho : attrAt s name with
 | none =>
  rw [ho, optV_none] at HI
  have HQ := hI (show E = if op = 3 /\ (defAt l name).isSome = true then 0 else 7 by rw [HE.out]; exact cnode_none HK0.out ho)
  clear ho HE HK0 HKF
  obtain ⟨g, hmap, hg⟩ := HD.out
  have HMP := hI hmap
  have HG := hI hg
  clear hmap hg
  cases hda : defAt l name with
  | none =>
   have HFN := hI (show strF g (.string name.data.toList) = none by rw [strF_at]; exact (HG.out _).1 hda)
   have HR := hI (show E = 7 by rw [HQ.out, hda]; simp)
   clear hda HQ
   rcases hkd with ⟨rfl, rfl⟩ | ⟨rfl, rfl⟩ | ⟨rfl, rfl⟩
   all_goals
    go_enter Tryz.func169, Tryz.ntmps169
    go_upto_region 1 with fail
    rw [<- hwa]
    clear hwa
    go_wp2_with fail
    refine HI.out.mono ?_
    rintro r w3 ⟨rfl, hx3⟩
    have HX3 := hI (HXA.out.trans hx3)
    have HM3 := hI (HMP.out.ext HX3.out)
    clear b0 b1 b2 b3 b4 b5 bf a0 af hlt1
    obtain ⟨b0, b1, b2, b3, b4, b5, bf⟩ := blk6 (hx3.blk HB1.out)
    have hlt := blk_lt (hx3.blk HB1.out)
    clear hx3
    go_wp2_with (at_lookup; refine wpList_map_ok _ rfl _ _ 131 rfl 9 45 keyedStr uMapSE (zeroEx _) bm nm _ rfl HM3.out _ _ rfl (keyStr hen) trivial ?_; rw [HFN.out])
    go_ret
    exact givesE_of (by rw [HR.out]) (HX3.out.alloc _)
  | some d =>
   obtain ⟨u, hu, hux⟩ := (HG.out name).2 d hda
   obtain ⟨aw', nw', cw', aa', na', ca', rfl, -, -, -, -, -⟩ := hux.parts
   have HFN := hI (show strF g (.string name.data.toList) = some _ by rw [strF_at]; exact hu)
   unfold exV at HFN
   have HR := hI (show E = if op = 3 then 0 else 7 by rw [HQ.out, hda]; simp)
   clear hda HQ hu hux
   rcases hkd with ⟨rfl, rfl⟩ | ⟨rfl, rfl⟩ | ⟨rfl, rfl⟩
   all_goals
    go_enter Tryz.func169, Tryz.ntmps169
    go_upto_region 1 with fail
    rw [<- hwa]
    clear hwa
    go_wp2_with fail
    refine HI.out.mono ?_
    rintro r w3 ⟨rfl, hx3⟩
    have HX3 := hI (HXA.out.trans hx3)
    have HM3 := hI (HMP.out.ext HX3.out)
    clear b0 b1 b2 b3 b4 b5 bf a0 af hlt1
    obtain ⟨b0, b1, b2, b3, b4, b5, bf⟩ := blk6 (hx3.blk HB1.out)
    have hlt := blk_lt (hx3.blk HB1.out)
    clear hx3
    go_wp2_with (at_lookup; refine wpList_map_ok _ rfl _ _ 131 rfl 9 45 keyedStr uMapSE (zeroEx _) bm nm _ rfl HM3.out _ _ rfl (keyStr hen) trivial ?_; rw [HFN.out])
    go_ret
    exact givesE_of (by rw [HR.out]; decide) (HX3.out.alloc _)
 | some i =>
  rw [ho, optV_some] at HI
  have his := attrAt_lt ho
  have hin : i < sn := by have := HSN.out; omega
  have HQ := hI (show E = if s[i].kind ≠ kd then 9 else if (words.all fun x => decide (x ∈ s[i].words)) = false then 7 else if lo < s[i].lo \/ s[i].hi < hi then 1 else 0 by rw [HE.out, cnode_some HK0.out ho his, HKF.out])
  clear ho HE HK0 HKF
  have ti0 : (0 : Int) <= (i : Int) := by omega
  have ti1 : (i : Int) < (sn : Int) := by omega
  have hfi := HF.out _ (List.getElem_mem his)
  have hxn0 := hfi.2.1
  clear hfi
  by_cases hk : s[i].kind = kd
  case neg =>
   have tk : (s[i].kind != kd) = true := by simp [hk]
   have HR := hI (show E = 9 by rw [HQ.out, if_pos hk])
   clear hk HQ
   rcases hkd with ⟨rfl, rfl⟩ | ⟨rfl, rfl⟩ | ⟨rfl, rfl⟩
   all_goals
    go_enter Tryz.func169, Tryz.ntmps169
    go_upto_region 1 with fail
    rw [<- hwa]
    clear hwa
    go_wp2_with fail
    refine HI.out.mono ?_
    rintro r w3 ⟨rfl, hx3⟩
    have HX3 := hI (HXA.out.trans hx3)
    clear b0 b1 b2 b3 b4 b5 bf a0 af hlt1
    obtain ⟨d0, df⟩ := blk1 (hx3.blk HB0.out)
    have hlt := blk_lt (hx3.blk HB1.out)
    obtain ⟨sb, soff, xw, xn, xc, rfl, g0, g1, g2, g3, g4, g5⟩ := (HS.out.ext HX3.out).cells his
    clear hx3 g5
    go_wp2_with fail
    go_ret
    exact givesE_of (by rw [HR.out]) (HX3.out.alloc _)
  have tk : (s[i].kind != kd) = false := by simp [hk]
  have HR := hI (show E = if (words.all fun x => decide (x ∈ s[i].words)) = false then 7 else if lo < s[i].lo \/ s[i].hi < hi then 1 else 0 by rw [HQ.out, if_neg (by simpa using hk)])
  clear hk HQ
  rcases hkd with ⟨rfl, rfl⟩ | ⟨rfl, rfl⟩ | ⟨rfl, rfl⟩
  all_goals
   go_enter Tryz.func169, Tryz.ntmps169
   go_upto_region 1 with fail
   rw [<- hwa]
   clear hwa
   go_wp2_with fail
   refine HI.out.mono ?_
   rintro r w3 ⟨rfl, hx3⟩
   have HX3 := hI (HXA.out.trans hx3)
   clear b0 b1 b2 b3 b4 b5 bf a0 af hlt1
   obtain ⟨d0, df⟩ := blk1 (hx3.blk HB0.out)
   have HB13 := hI (hx3.blk HB1.out)
   have hlt := blk_lt (hx3.blk HB1.out)
   obtain ⟨sb, soff, xw, xn, xc, rfl, g0, g1, g2, g3, g4, g5⟩ := (HS.out.ext HX3.out).cells his
   have HG5 := hI g5
   have hxn : xn <= 1000000000000000 := by rw [g5.1]; exact hxn0
   clear hx3 g5
   go_upto_region 17 with fail
   obtain ⟨wb, hwb⟩ : ∃ wb, wb = w3.alloc (.cells #[.string s[i].name, .int .i64 s[i].kind, .slice xw xn xc, .int .i64 s[i].lo, .int .i64 s[i].hi] 101) := ⟨_, rfl⟩
   rw [<- hwb]
   have hxb : Ext w3 wb := by rw [hwb]; exact (Ext.refl _).alloc _
   have hbb : wb.heap[w3.heap.size]? = some (.cells #[.string s[i].name, .int .i64 s[i].kind, .slice xw xn xc, .int .i64 s[i].lo, .int .i64 s[i].hi] 101 (0, 0)) := by rw [hwb]; exact alloc_new w3 _
   have HBB := hI hbb
   have HB6 := hI (hxb.blk HB13.out)
   have HXB := hI (HX3.out.trans hxb)
   have HGB := hI (HG5.out.ext hxb)
   have HWB := hI (HW.out.ext HXB.out)
   obtain ⟨p0, p1, p2, p3, p4, pf⟩ := blk5b hbb
   obtain ⟨q0, q1, q2, q3, q4, q5, qf⟩ := blk6 HB6.out
   have hltb := blk_lt hbb
   clear hwb hxb hbb d0 df g0 g1 g2 g3 g4 HG5 hlt
   go_wp2_with fail
   go_loop [57] (fun t => ∃ k : Nat, t = .int .i64 k /\ k <= nw /\ (∀ j (h : j < words.length), j < k -> decide (words[j] ∈ s[i].words) = true)) (fun t => nw - (intOf t).toNat)
   case atStart => exact ⟨0, rfl, by omega, fun j _ h => by omega⟩
   case round =>
    obtain ⟨k, rfl, hk, hall⟩ := hrel
    have HALL := hI hall
    clear hall
    by_cases hkn : k < nw
    ·have hkw : k < words.length := by have := HNW.out; omega
     have t1 : decide ((k : Int) < (nw : Int)) = true := decide_eq_true (by omega)
     obtain ⟨wb', woff, rfl, cw0⟩ := HWB.out.2.2.2 k hkw
     cases hany : decide (words[k] ∈ s[i].words)
     ·have HA := hI hany
      have HR2 := hI (show E = 7 by
       rw [HR.out, if_pos]
       rw [List.all_eq_false]
       exact ⟨words[k], List.getElem_mem hkw, by rw [hany]; simp⟩)
      clear hany
      go_wp2_with fail
      refine (contains_calls _ _ _ _ _ _ hxn HGB.out).mono ?_
      rintro e w' ⟨rfl, rfl⟩
      rw [HA.out]
      go_wp2_with fail
      go_ret
      exact givesE_of (by rw [HR2.out]) HXB.out
     have HA := hI hany
     clear hany
     go_wp2_with fail
     refine (contains_calls _ _ _ _ _ _ hxn HGB.out).mono ?_
     rintro e w' ⟨rfl, rfl⟩
     rw [HA.out]
     go_wp2_with fail
     go_round
     case rel =>
      refine ⟨k + 1, by go_num, by omega, fun j hj hjk => ?_⟩
      by_cases e : j = k
      ·subst e; exact HA.out
      exact HALL.out j hj (by omega)
     case measure => simp [intOf]; omega
    have t1 : decide ((k : Int) < (nw : Int)) = false := decide_eq_false (by omega)
    have HR2 := hI (show E = if lo < s[i].lo \/ s[i].hi < hi then 1 else 0 by
     rw [HR.out, if_neg]
     rw [Bool.not_eq_false, List.all_eq_true]
     intro y hy
     obtain ⟨j, hj, rfl⟩ := List.mem_iff_getElem.1 hy
     exact HALL.out j hj (by have := HNW.out; omega))
    clear HALL
    go_wp2_with fail
    all_goals (go_ret; exact givesE_of (by rw [HR2.out]; simp_all <;> omega) HXB.out)
structure LossV where
 sa : OA
 sn : Nat
 sc : Nat
 bm : Nat
 fa : OA
 fn : Nat
 fc : Nat
def LossV.val (v : LossV) : Value := .agg #[.slice v.sa v.sn v.sc, .map (some v.bm), .slice v.fa v.fn v.fc]
structure IsLoss (w : World) (s : List Attr) (l : List Cla) (f : ZI) (v : LossV) (nm : Nat) : Prop where
 sch : IsSchema w s (.agg #[.slice v.sa v.sn v.sc])
 defs : DefsAt w l v.bm nm
 facts : IsIntF w f v.fa v.fn
theorem IsLoss.ext {w w' : World} {s : List Attr} {l : List Cla} {f : ZI} {v : LossV} {nm : Nat} (h : IsLoss w s l f v nm) (hx : Ext w w') : IsLoss w' s l f v nm := ⟨h.sch.ext hx, h.defs.ext hx, h.facts.ext hx⟩
def exZero : Value := .agg #[.int .i64 0, .string ⟨#[]⟩, .slice none 0 0, .int .i64 0, .int .i64 0, .slice none 0 0]
def DefnQ (l : List Cla) (op : Int) (name : BA) (w : World) (e : Ending) (w' : World) : Prop := Ext w w' /\ ((op = 3 /\ ∃ d v, defAt l name = some d /\ e = .returned (.tuple #[ExV.val v, .bool true]) /\ IsEx w' (l.getD d cla0).cond v.val) \/ ((op ≠ 3 \/ defAt l name = none) /\ e = .returned (.tuple #[exZero, .bool false])))
theorem isEx_exV {w : World} {e : Ex} {v : Value} (h : IsEx w e v) : ∃ x : ExV, v = x.val /\ IsEx w e x.val := by
 obtain ⟨aw, nw, cw, aa, na, ca, rfl, -⟩ := h.parts
 exact ⟨⟨e.op, e.name, aw, nw, cw, e.lo, e.hi, aa, na, ca⟩, rfl, h⟩
theorem definition_calls (s : List Attr) (l : List Cla) (f : ZI) (lv : LossV) (nm : Nat) (e : Ex) (ev : Value) (w : World) (hl : IsLoss w s l f lv nm) (he : IsEx w e ev) (hen : e.name.size <= 1000000000000000) :
  Calls Tryz.prog 148 #[lv.val, ev] w (DefnQ l e.op e.name w) := by
 obtain ⟨aw, nw, cw, aa, na, ca, rfl, hw, hna, hca, ha, hx⟩ := he.parts
 obtain ⟨sa, sn, sc, bm, fa, fn, fc⟩ := lv
 have HD := hI hl.defs
 clear hw hna hca ha hx hl he
 unfold exV LossV.val
 obtain ⟨op, name, words, lo, hi, args⟩ := e
 simp only [Ex.op, Ex.name, Ex.lo, Ex.hi] at *
 by_cases h3 : op = 3
 case neg =>
  have t3 : (op != 3) = true := by simp [h3]
  have H3 := hI h3
  clear h3
  go_enter Tryz.func148, Tryz.ntmps148
  go_wp2_with fail
  refine bodyPost_ret (v := .tuple #[exZero, .bool false]) (by simp [results, Tryz.results148, go_sem, exZero]) rfl ?_
  exact ⟨by first | exact (((Ext.refl w).alloc _).alloc _).alloc _ | exact Ext.refl w, Or.inr ⟨Or.inl H3.out, rfl⟩⟩
 subst h3
 obtain ⟨g, hmap, hg⟩ := HD.out
 have HMP := hI hmap
 have HG := hI hg
 clear hmap hg
 cases hda : defAt l name with
 | none =>
  have HFN := hI (show strF g (.string name.data.toList) = none by rw [strF_at]; exact (HG.out _).1 hda)
  have HDA := hI hda
  clear hda HG
  go_enter Tryz.func148, Tryz.ntmps148
  go_wp2_with (at_lookup; refine wpList_map_ok _ rfl _ _ 131 rfl 9 45 keyedStr uMapSE (zeroEx _) bm nm _ rfl (HMP.out.ext ((((Ext.refl w).alloc _).alloc _).alloc _)) _ _ rfl (keyStr hen) trivial ?_; rw [HFN.out])
  refine bodyPost_ret (v := .tuple #[exZero, .bool false]) (by simp [results, Tryz.results148, go_sem, exZero]) rfl ?_
  exact ⟨((((Ext.refl w).alloc _).alloc _).alloc _).alloc _, Or.inr ⟨Or.inr HDA.out, rfl⟩⟩
 | some d =>
  obtain ⟨u, hu, hux⟩ := (HG.out name).2 d hda
  obtain ⟨xv, rfl, hxv⟩ := isEx_exV hux
  have HFN := hI (show strF g (.string name.data.toList) = some _ by rw [strF_at]; exact hu)
  have HXV := hI hxv
  have HDA := hI hda
  clear hda HG hu hux hxv
  obtain ⟨xo, xn, xaw, xnw, xcw, xlo, xhi, xaa, xna, xca⟩ := xv
  unfold ExV.val exV at HFN HXV
  go_enter Tryz.func148, Tryz.ntmps148
  go_wp2_with (at_lookup; refine wpList_map_ok _ rfl _ _ 131 rfl 9 45 keyedStr uMapSE (zeroEx _) bm nm _ rfl (HMP.out.ext ((((Ext.refl w).alloc _).alloc _).alloc _)) _ _ rfl (keyStr hen) trivial ?_; rw [HFN.out])
  refine bodyPost_ret (v := .tuple #[ExV.val ⟨xo, xn, xaw, xnw, xcw, xlo, xhi, xaa, xna, xca⟩, .bool true]) (by simp [results, Tryz.results148, go_sem, ExV.val, exV]) rfl ?_
  have hx : Ext w _ := (((((Ext.refl w).alloc (.cells #[.slice sa sn sc, .map (some bm), .slice fa fn fc] 183)).alloc (.cells #[.int .i64 3, .string name, .slice aw nw cw, .int .i64 lo, .int .i64 hi, .slice aa na ca] 45)).alloc (.cells #[.int .i64 xo, .string xn, .slice xaw xnw xcw, .int .i64 xlo, .int .i64 xhi, .slice xaa xna xca] 45)).alloc (.cells #[.int .i64 xo, .string xn, .slice xaw xnw xcw, .int .i64 xlo, .int .i64 xhi, .slice xaa xna xca] 45))
  exact ⟨hx, Or.inl ⟨rfl, d, _, HDA.out, rfl, HXV.out.ext hx⟩⟩
theorem fact_ways {s : List Attr} {l : List Cla} {e : Ex} (ht : okTree e) (h : nodesErr s l e = 0) (h6 : e.op ≠ 6 /\ e.op ≠ 7 /\ e.op ≠ 8) (hd : e.op = 3 -> defAt l e.name = none) : e.op = 1 \/ e.op = 2 \/ (e.op = 3 /\ ∃ i, attrAt s e.name = some i) \/ (e.op = 4 /\ ∃ i, attrAt s e.name = some i /\ (s.getD i attr0).kind = 1) \/ (e.op = 5 /\ ∃ i, attrAt s e.name = some i) := by
 rcases node_ways ht h with h1 | h1 | ⟨h1, i, h2, -⟩ | ⟨h1, -, d, h2⟩ | ⟨h1, i, h2, h3⟩ | ⟨h1, i, h2, -⟩ | ⟨h1, -⟩ | h1 | h1
 ·exact Or.inl h1
 ·exact Or.inr (Or.inl h1)
 ·exact Or.inr (Or.inr (Or.inl ⟨h1, i, h2⟩))
 ·rw [hd h1] at h2; cases h2
 ·exact Or.inr (Or.inr (Or.inr (Or.inl ⟨h1, i, h2, h3⟩)))
 ·exact Or.inr (Or.inr (Or.inr (Or.inr ⟨h1, i, h2⟩)))
 ·exact absurd h1 h6.1
 ·exact absurd h1 h6.2.1
 exact absurd h1 h6.2.2
theorem okTree_words {e : Ex} (h : okTree e) : e.words.length <= 12 /\ e.name.size <= 1000 := by
 rcases (okTree_parts h).1 with ⟨-, h1, h2, -⟩ | ⟨-, h1, h2, -⟩ | ⟨-, h1, h2, -⟩ | ⟨-, h1, h2, -⟩ | ⟨-, h1, h2, -⟩ | ⟨-, h1, h2, -⟩ | ⟨-, h1, h2, -⟩
 ·rw [h1, h2]; exact ⟨by simp, by decide⟩
 ·rw [h1, h2]; exact ⟨by simp, by decide⟩
 ·rw [h2]; exact ⟨by simp, by have := nameB_le h1; omega⟩
 ·simp only [wordsB, Bool.and_eq_true] at h2
  exact ⟨of_decide_eq_true h2.1.1.2, by have := nameB_le h1; omega⟩
 ·rw [h2]; exact ⟨by simp, by have := nameB_le h1; omega⟩
 ·rw [h1, h2]; exact ⟨by simp, by decide⟩
 rw [h1, h2]; exact ⟨by simp, by decide⟩
theorem fact_calls (s : List Attr) (l : List Cla) (f : ZI) (lv : LossV) (nm : Nat) (hsc : schemaErr s = 0) (hfa : factsAll s f = true) (e : Ex) (ev : Value) (w : World) (hl : IsLoss w s l f lv nm) (he : IsEx w e ev) (hok : okTree e)
  (hw5 : e.op = 1 \/ e.op = 2 \/ (e.op = 3 /\ ∃ i, attrAt s e.name = some i) \/ (e.op = 4 /\ ∃ i, attrAt s e.name = some i /\ (s.getD i attr0).kind = 1) \/ (e.op = 5 /\ ∃ i, attrAt s e.name = some i)) :
  Calls Tryz.prog 149 #[lv.val, ev] w (GivesE (.bool (factV s f e.op e.name e.words e.lo e.hi)) w) := by
 have hwl := okTree_words hok
 obtain ⟨aw, nw, cw, aa, na, ca, rfl, hw, hna, hca, ha, hx⟩ := he.parts
 obtain ⟨sa, sn, sc, bm, fa, fn, fc⟩ := lv
 have HS := hI hl.sch
 have HI := hI hl.facts
 have HW := hI hw
 have HFA := hI hfa
 have hsl6 := (schema_attrs hsc).2.1
 have HIX := hI (fun W (hW : Ext w W) => sIndex_calls s _ e.name W (hl.sch.ext hW) (by omega))
 have HSN := hI (show sn = s.length by obtain ⟨a', n', c', e', h', -⟩ := hl.sch.parts; simp at e'; omega)
 clear hw hna hca ha hx hl he hok hfa hsl6 hsc
 unfold exV LossV.val
 obtain ⟨op, name, words, lo, hi, args⟩ := e
 simp only [Ex.op, Ex.name, Ex.words, Ex.lo, Ex.hi] at *
 have hwn := hwl.1
 have HNM := hI hwl.2
 clear hwl
 obtain ⟨R, hR⟩ : ∃ R, R = factV s f op name words lo hi := ⟨_, rfl⟩
 rw [<- hR]
 have HR := hI hR
 clear hR
 obtain ⟨wa, hwa⟩ : ∃ wa, wa = (w.alloc (.cells #[.slice sa sn sc, .map (some bm), .slice fa fn fc] 183)).alloc (.cells #[.int .i64 op, .string name, .slice aw nw cw, .int .i64 lo, .int .i64 hi, .slice aa na ca] 45) := ⟨_, rfl⟩
 have hxa : Ext w wa := by rw [hwa]; exact ((Ext.refl _).alloc _).alloc _
 have hb0 : wa.heap[w.heap.size]? = some (.cells #[.slice sa sn sc, .map (some bm), .slice fa fn fc] 183 (0, 0)) := by rw [hwa]; exact blk_alloc (alloc_new w _)
 have hb1 : wa.heap[w.heap.size + 1]? = some (.cells #[.int .i64 op, .string name, .slice aw nw cw, .int .i64 lo, .int .i64 hi, .slice aa na ca] 45 (0, 0)) := by rw [hwa]; exact alloc_atR (by simp)
 have HXA := hI hxa
 have HB0 := hI hb0
 have HB1 := hI hb1
 obtain ⟨f0, f1, f2, f3, f4, f5, ff⟩ := blk6 hb1
 obtain ⟨e0, e1, e2, ef⟩ := blk3 hb0
 have hltw := blk_lt hb1
 clear hxa hb0 hb1
 rcases hw5 with rfl | rfl | ⟨rfl, i, hat⟩ | ⟨rfl, i, hat, hkd⟩ | ⟨rfl, i, hat⟩
 ·have HQ := hI (show R = true by rw [HR.out]; simp [factV])
  go_enter Tryz.func149, Tryz.ntmps149
  go_upto_region 1 with fail
  rw [<- hwa]
  clear hwa
  go_wp2_with fail
  go_ret
  exact givesE_bool (by rw [HQ.out]) HXA.out
 ·have HQ := hI (show R = false by rw [HR.out]; simp [factV])
  go_enter Tryz.func149, Tryz.ntmps149
  go_upto_region 1 with fail
  rw [<- hwa]
  clear hwa
  go_wp2_with fail
  go_ret
  exact givesE_bool (by rw [HQ.out]) HXA.out
 ·obtain ⟨his, -⟩ := attrAt_at hat
  obtain ⟨hif, -, -⟩ := fact_at HFA.out his
  obtain ⟨fb, fo, rfl, hcell⟩ := HI.out.2 i hif
  obtain ⟨z, hz⟩ : ∃ z, z = f[i] := ⟨_, rfl⟩
  rw [<- hz] at hcell
  have HQ := hI (show R = (z == 1) by
   rw [HR.out]
   simp only [factV, hat]
   rw [if_neg (by decide), if_neg (by decide), if_neg (by decide), if_neg (by decide), Bool.eq_iff_iff]
   simp [hif, <- hz])
  have hin : i < fn := by rw [HI.out.1]; exact hif
  have HCF := hI hcell
  rw [hat, optV_some] at HIX
  clear hat his hif hcell hz
  go_enter Tryz.func149, Tryz.ntmps149
  go_upto_region 1 with fail
  rw [<- hwa]
  clear hwa
  go_wp2_with fail
  refine (HIX.out wa HXA.out).mono ?_
  rintro r w1 ⟨rfl, hx1⟩
  have HX1 := hI (HXA.out.trans hx1)
  clear f0 f1 f2 f3 f4 f5 ff e0 e1 e2 ef hltw
  obtain ⟨f0, f1, f2, f3, f4, f5, ff⟩ := blk6 (hx1.blk HB1.out)
  obtain ⟨e0, e1, e2, ef⟩ := blk3 (hx1.blk HB0.out)
  have hcf := HX1.out.cell HCF.out
  clear hx1
  go_wp2_with fail
  go_ret
  exact givesE_bool (by rw [HQ.out]) HX1.out
 ·obtain ⟨his, -⟩ := attrAt_at hat
  obtain ⟨hif, hlo2, hhi2⟩ := fact_at HFA.out his
  have hkd' : s[i].kind = 1 := by rw [<- hkd]; simp [his]
  have hdm : domB s[i] = (0, (s[i].words.length : Int) - 1) := by unfold domB; rw [if_pos hkd']
  rw [hdm] at hlo2 hhi2
  simp only at hlo2 hhi2
  obtain ⟨ab, ao, rfl, hA⟩ : ∃ ab ao, sa = some ⟨ab, ao, none⟩ /\ AttrAt w s[i] ab (ao + i * 5) := by
   obtain ⟨xa, xn, xc, e', -, -, -, hq⟩ := HS.out.parts
   simp only [Value.agg.injEq, Array.mk.injEq, List.cons.injEq, Value.slice.injEq, and_true] at e'
   obtain ⟨rfl, rfl, rfl⟩ := e'
   exact hq i his
  obtain ⟨x1, hx1⟩ : ∃ x1, x1 = s[i] := ⟨_, rfl⟩
  rw [<- hx1] at hA hkd' hhi2
  obtain ⟨bw, nwa, cwa, hstr, hfive⟩ := hA.five
  have H5 := hI hfive
  obtain ⟨fb, fo, rfl, hcell⟩ := HI.out.2 i hif
  obtain ⟨z, hz⟩ : ∃ z : Nat, f[i] = (z : Int) := ⟨f[i].toNat, by omega⟩
  rw [hz] at hcell hlo2 hhi2
  have hzw : z < x1.words.length := by omega
  obtain ⟨wb, wo, rfl, hwc⟩ := hstr.2.2.2 z hzw
  have HWC := hI hwc
  have hzn : z < nwa := by rw [hstr.1]; exact hzw
  have HQ := hI (show R = decide (x1.words[z] ∈ words) by
   rw [HR.out]
   simp only [factV, hat]
   rw [if_neg (by decide), if_neg (by decide), if_pos (by decide), Bool.eq_iff_iff]
   simp [his, hif, hz, <- hx1, hzw])
  have hin : i < fn := by rw [HI.out.1]; exact hif
  have hisn : i < sn := by rw [HSN.out]; exact his
  have HCF := hI hcell
  have HWI := hI (fun W (hW : Ext w W) => contains_calls words x1.words[z] aw nw cw W (by rw [HW.out.1]; omega) (HW.out.ext hW))
  rw [hat, optV_some] at HIX
  obtain ⟨x, hxx⟩ : ∃ x, x = x1.words[z] := ⟨_, rfl⟩
  rw [<- hxx] at HWC HQ HWI
  clear hx1 hat hkd his hif hlo2 hhi2 hcell hz hkd' hdm hA hstr hfive hwc hzw hxx
  go_enter Tryz.func149, Tryz.ntmps149
  go_upto_region 1 with fail
  rw [<- hwa]
  clear hwa
  go_wp2_with fail
  refine (HIX.out wa HXA.out).mono ?_
  rintro r w1 ⟨rfl, hx1⟩
  have HX1 := hI (HXA.out.trans hx1)
  clear f0 f1 f2 f3 f4 f5 ff e0 e1 e2 ef hltw
  obtain ⟨f0, f1, f2, f3, f4, f5, ff⟩ := blk6 (hx1.blk HB1.out)
  obtain ⟨e0, e1, e2, ef⟩ := blk3 (hx1.blk HB0.out)
  have hcf := HX1.out.cell HCF.out
  have hwf := HX1.out.cell HWC.out
  obtain ⟨g0, g1, g2, g3, g4⟩ := H5.out w1 HX1.out
  clear hx1
  go_wp2_with fail
  go_still_tail 12, (by kernel_rfl)
  change wpList _ _ _ _ _ w1.drew
  have hx2 : Ext w1 w1.drew := (Ext.refl w1).drew
  generalize w1.drew = w2 at hx2 ⊢
  have HX2 := hI (HX1.out.trans hx2)
  clear hx2 f0 f1 f2 f3 f4 f5 ff e0 e1 e2 ef hcf hwf g0 g1 g2 g3 g4
  go_wp2_with fail
  refine (HWI.out w2 HX2.out).mono ?_
  rintro r w3 ⟨rfl, rfl⟩
  go_wp2_with fail
  go_ret
  exact givesE_bool (by rw [HQ.out]) HX2.out
 obtain ⟨his, -⟩ := attrAt_at hat
 obtain ⟨hif, -, -⟩ := fact_at HFA.out his
 obtain ⟨fb, fo, rfl, hcell⟩ := HI.out.2 i hif
 obtain ⟨z, hz⟩ : ∃ z, z = f[i] := ⟨_, rfl⟩
 rw [<- hz] at hcell
 have HQ := hI (show R = (decide (lo <= z) && decide (z <= hi)) by
  rw [HR.out]
  simp only [factV, hat]
  rw [if_neg (by decide), if_neg (by decide), if_neg (by decide), if_pos (by decide)]
  simp [hif, <- hz])
 have hin : i < fn := by rw [HI.out.1]; exact hif
 have HCF := hI hcell
 rw [hat, optV_some] at HIX
 clear hat his hif hcell hz
 have hw4 : (decide (lo <= z) = true /\ decide (z <= hi) = true /\ R = true) \/ (decide (lo <= z) = true /\ decide (z <= hi) = false /\ R = false) \/ (decide (lo <= z) = false /\ R = false) := by
  rw [HQ.out]
  cases decide (lo <= z) <;> cases decide (z <= hi) <;> simp
 rcases hw4 with ⟨t1, t2, hf⟩ | ⟨t1, t2, hf⟩ | ⟨t1, hf⟩
 all_goals
  have HF := hI hf
  clear hf
  go_enter Tryz.func149, Tryz.ntmps149
  go_upto_region 1 with fail
  rw [<- hwa]
  clear hwa
  go_wp2_with fail
  refine (HIX.out wa HXA.out).mono ?_
  rintro r w1 ⟨rfl, hx1⟩
  have HX1 := hI (HXA.out.trans hx1)
  clear f0 f1 f2 f3 f4 f5 ff e0 e1 e2 ef hltw
  obtain ⟨f0, f1, f2, f3, f4, f5, ff⟩ := blk6 (hx1.blk HB1.out)
  obtain ⟨e0, e1, e2, ef⟩ := blk3 (hx1.blk HB0.out)
  have hcf := HX1.out.cell HCF.out
  clear hx1
  go_wp2_with fail
  go_ret
  exact givesE_bool (by rw [HF.out]) HX1.out
open Go.RowKit
theorem wbN_take_succ : (l : List Wb) -> (k : Nat) -> (hk : k < l.length) -> wbN (l.take (k + 1)) = wbN (l.take k) + 1 + wbN l[k].unl
 | [], k, hk => by simp at hk
 | .mk n c u :: r, 0, _ => by simp [wbN, Wb.unl]
 | .mk n c u :: r, k + 1, hk => by
  have := wbN_take_succ r k (by simpa using hk)
  simp [wbN] at this ⊢
  omega
theorem wbN_take_le : (l : List Wb) -> (k : Nat) -> wbN (l.take k) <= wbN l
 | [], k => by simp [wbN]
 | .mk n c u :: r, 0 => by simp [wbN]
 | .mk n c u :: r, k + 1 => by have := wbN_take_le r k; simp [wbN]; omega
def WbQ (R : Bool) (T : Nat) (bc : Nat) (w : World) (e : Ending) (w' : World) : Prop := ∃ m : Nat, e = .returned (.bool R) /\ w'.heap[bc]? = some (.cells #[.int .i64 ((m : Nat) : Int)] 3 (0, 0)) /\ m <= 41 /\ (R = true -> m = T) /\ Chg [bc] w w'
def WbRel (w : World) (bc d n : Nat) (l : List Wb) (nl : Nat) (t : Value) (wr : World) : Prop := ∃ k m : Nat, t = .int .i64 ((k : Nat) : Int) /\ k <= nl /\ (∀ j (h : j < l.length), j < k -> itemB (17 - d) l[j] = true) /\ m = n + wbN (l.take k) /\ m <= 40 /\ (k = 0 \/ d ≠ 17) /\
 wr.heap[bc]? = some (.cells #[.int .i64 ((m : Nat) : Int)] 3 (0, 0)) /\ Chg [bc] w wr
theorem writeBacks_calls {w0 : World} (ho : HasOps w0) (fm : Nat) : ∀ (l : List Wb) (a : OA) (nl c d n bc : Nat) (w : World), wbN l < fm -> nl <= 1000000000000000 -> wbFits l -> 1 <= d -> d <= 17 -> n <= 40 -> nl = l.length -> WbsD (mask w [bc]) l a -> Ext w0 w -> w0.heap.size <= bc ->
  w.heap[bc]? = some (.cells #[.int .i64 ((n : Nat) : Int)] 3 (0, 0)) ->
  Calls Tryz.prog 183 #[.slice a nl c, .int .i64 ((d : Nat) : Int), .pointer (some ⟨bc, 0, none⟩)] w (WbQ (backsB (17 - d) l && decide (n + wbN l <= 40)) (n + wbN l) bc w) := by
 induction fm with
 | zero => intro l a nl c d n bc w h; omega
 | succ fm ih =>
  intro l a nl c d n bc w hfm hnl hfit hd1 hd2 hn hln hdat hx0 hbc hcell
  have HD := hI hdat
  have HN := hI hln
  have HFT := hI hfit
  have HX0 := hI hx0
  have HO := hI ho
  have IH := hI ih
  have HBC := hI hbc
  have HCELL := hI hcell
  have HQ := hI (backsB_eq (17 - d) l)
  obtain ⟨R, hR⟩ : ∃ R, R = (backsB (17 - d) l && decide (n + wbN l <= 40)) := ⟨_, rfl⟩
  rw [<- hR]
  have HR := hI hR
  obtain ⟨T, hT⟩ : ∃ T, T = n + wbN l := ⟨_, rfl⟩
  rw [<- hT]
  have HT := hI hT
  clear hdat hln hfit hx0 ih hcell hR hT ho
  go_enter Tryz.func183, Tryz.ntmps183
  go_wp2_with fail
  go_loopw [11] (WbRel w bc d n l nl) (fun t _ => nl - (intOf t).toNat)
  case atStart => exact ⟨0, n, rfl, by omega, fun j _ h => by omega, by simp [wbN], hn, Or.inl rfl, HCELL.out, Chg.refl _ _⟩
  case round =>
   obtain ⟨k, m, rfl, hk, hall, hm, hm40, hk17, hcb, hch⟩ := hrel
   have HK17 := hI hk17
   have HALL := hI hall
   have HM := hI hm
   have HCB := hI hcb
   have HCH := hI hch
   obtain ⟨cc0, ccf⟩ := blk1 hcb
   have hbcl := blk_lt hcb
   clear hall hm hcb hch hk17
   by_cases hkn : k < nl
   case neg =>
    have t1 : decide ((k : Int) < (nl : Int)) = false := decide_eq_false (by omega)
    have HE := hI (show m = T /\ R = true by
     have h1 := HM.out
     have h2 := HN.out
     rw [List.take_of_length_le (by omega)] at h1
     refine ⟨by rw [HT.out, h1], ?_⟩
     rw [HR.out, Bool.and_eq_true]
     refine ⟨?_, by simp; omega⟩
     rw [HQ.out, Bool.and_eq_true]
     refine ⟨?_, ?_⟩
     ·by_cases h0 : l.length = 0
      ·simp [h0]
      have hd17 : 17 - d ≠ 0 := by
       have := HK17.out
       omega
      simp [hd17]
     rw [List.all_eq_true]
     intro x hx
     obtain ⟨j, hj, rfl⟩ := List.mem_iff_getElem.1 hx
     exact HALL.out j hj (by omega))
    go_wp2_with fail
    go_ret
    exact ⟨m, by rw [HE.out.2]; rfl, HCB.out, by omega, fun _ => HE.out.1, HCH.out⟩
   have hkl : k < l.length := by have := HN.out; omega
   have t1 : decide ((k : Int) < (nl : Int)) = true := decide_eq_true (by omega)
   obtain ⟨b, off, rfl, v, hv0, hrow, hv2, hv3, hv4, hv5, hv6⟩ := WbsD.at l _ (WbsD.mono HCH.out.sub _ _ HD.out) k hkl
   obtain ⟨c0, c1, c2, c3, c4, c5, c6, c7⟩ := (hrow.mono (mask_sub _ _)).eight
   obtain ⟨ho1, ho2, ho3, ho4, hou, ho5⟩ := wbFits_at l HFT.out k hkl
   have hvn : v.nu <= 1000000000000000 := by rw [hv3]; exact hou
   have hwn := wbN_at l k hkl
   have HU := hI hv6
   have HUN := hI hv3
   have HEX := hI hv2
   have HO2 := hI ho2
   have HO5 := hI ho5
   have HIT := hI (show itemB (17 - d) l[k] = (nameB l[k].name && refExprB l[k].cond && backsB (17 - d - 1) l[k].unl) from rfl)
   have HTS := hI (wbN_take_succ l k hkl)
   have htl := wbN_take_le l (k + 1)
   have HTL := hI htl
   have hblt := block_lt c0
   rw [hv0] at c0
   simp only at hblt
   clear hrow hv0 hv2 hv3 hv4 hv5 hv6 ho2 ho3 ho4 hou ho5 htl
   obtain ⟨wx, hwx⟩ : ∃ wx, wx = (wr.setCell ⟨bc, 0, none⟩ (.int .i64 ((m : Int) + 1))).alloc (.cells #[.string l[k].name, .int .i64 v.x.op, .string v.x.name, .slice v.x.aw v.x.nw v.x.cw, .int .i64 v.x.lo, .int .i64 v.x.hi, .slice v.x.aa v.x.na v.x.ca, .slice v.au v.nu v.cu] 53) := ⟨_, rfl⟩
   have HBX := hI (show wx.heap[wr.heap.size]? = some (.cells #[.string l[k].name, .int .i64 v.x.op, .string v.x.name, .slice v.x.aw v.x.nw v.x.cw, .int .i64 v.x.lo, .int .i64 v.x.hi, .slice v.x.aa v.x.na v.x.ca, .slice v.au v.nu v.cu] 53 (0, 0)) by
    rw [hwx]
    exact alloc_atR (by simp))
   have HCX := hI (show wx.heap[bc]? = some (.cells #[.int .i64 (((m + 1 : Nat)) : Int)] 3 (0, 0)) by
    rw [hwx]
    have := heap_setCell_same wr bc 0 _ _ (.int .i64 ((m : Int) + 1)) HCB.out
    exact blk_alloc this)
   have HHX := hI (show Chg [bc] wr wx by rw [hwx]; exact ((Chg.refl [bc] wr).setCell (Or.inl (by simp)) _).alloc _)
   go_upto_region 5 with fail
   rw [<- hwx]
   have HXX := hI ((HCH.out.then HHX.out).ext HX0.out (by simpa using HBC.out))
   clear hwx cc0 ccf c0 c1 c2 c3 c4 c5 c6 c7
   obtain ⟨cc0, ccf⟩ := blk1 HCX.out
   have HFAL := hI (fun (h : itemB (17 - d) l[k] = false) => show R = false by
    rw [HR.out, HQ.out]
    have : l.all (itemB (17 - d)) = false := by
     rw [List.all_eq_false]
     exact ⟨l[k], List.getElem_mem hkl, by rw [h]; simp⟩
    rw [this]; simp)
   have HCNT := hI (fun (h : 40 < n + wbN l) => show R = false by
    rw [HR.out]
    have : decide (n + wbN l <= 40) = false := decide_eq_false (by omega)
    rw [this]; simp)
   by_cases h17 : d = 17
   ·have t2 : decide ((16 : Int) < (d : Int)) = true := decide_eq_true (by omega)
    have HF := hI (show R = false by
     rw [HR.out, HQ.out, h17]
     have : ¬ l.length = 0 := by omega
     simp [this])
    go_wp2_with fail
    go_ret
    exact ⟨m + 1, by rw [HF.out]; rfl, HCX.out, by omega, fun h => (by rw [HF.out] at h; cases h), HCH.out.then HHX.out⟩
   have t2 : decide ((16 : Int) < (d : Int)) = false := decide_eq_false (by omega)
   by_cases h40 : 40 < m + 1
   ·have t3 : decide ((40 : Int) < ((m + 1 : Nat) : Int)) = true := decide_eq_true (by omega)
    have HF := hI (HCNT.out (by have h1 := HM.out; have h2 := HTS.out; have h3 := HTL.out; omega))
    go_wp2_with fail
    go_ret
    exact ⟨m + 1, by rw [HF.out]; rfl, HCX.out, by omega, fun h => (by rw [HF.out] at h; cases h), HCH.out.then HHX.out⟩
   have t3 : decide ((40 : Int) < ((m + 1 : Nat) : Int)) = false := decide_eq_false (by omega)
   obtain ⟨c0, c1, c2, c3, c4, c5, c6, c7, cf⟩ := blk8 HBX.out
   have hltx := blk_lt HBX.out
   cases hnb : nameB l[k].name
   ·have HNB := hI hnb
    have HF := hI (HFAL.out (by rw [HIT.out, hnb]; rfl))
    clear hnb
    go_wp2_with fail
    refine (name_calls _ _ ho1).mono ?_
    rintro r w1 ⟨rfl, rfl⟩
    rw [HNB.out]
    go_wp2_with fail
    go_ret
    exact ⟨m + 1, by rw [HF.out]; rfl, HCX.out, by omega, fun h => (by rw [HF.out] at h; cases h), HCH.out.then HHX.out⟩
   have HNB := hI hnb
   rw [hnb, Bool.true_and] at HIT
   clear hnb
   go_wp2_with fail
   refine (name_calls _ _ ho1).mono ?_
   rintro r w1 ⟨rfl, rfl⟩
   rw [HNB.out]
   go_wp2_with fail
   refine (Valid_calls l[k].cond _ wx (HEX.out.mono (HHX.out.sub.trans (mask_sub _ _))) (HO.out.ext HXX.out) HO2.out).mono ?_
   rintro r w2 ⟨rfl, hx2⟩
   rw [validB_ref]
   have HX2 := hI (HXX.out.trans hx2)
   have HC2 := hI (hx2.blk HCX.out)
   have HB2 := hI (hx2.blk HBX.out)
   have HCH2 := hI ((HCH.out.then HHX.out).then (hx2.chg [bc]))
   have HU2 := hI (WbsD.mono ((HHX.out.then (hx2.chg [bc])).sub) _ _ HU.out)
   clear hx2 c0 c1 c2 c3 c4 c5 c6 c7 cf cc0 ccf hltx
   obtain ⟨c0, c1, c2, c3, c4, c5, c6, c7, cf⟩ := blk8 HB2.out
   have hltx := blk_lt HB2.out
   cases hxb : refExprB l[k].cond
   ·have HF := hI (HFAL.out (by rw [HIT.out, hxb]; rfl))
    go_wp2_with fail
    go_ret
    exact ⟨m + 1, by rw [HF.out]; rfl, HC2.out, by omega, fun h => (by rw [HF.out] at h; cases h), HCH2.out⟩
   rw [hxb, Bool.true_and] at HIT
   clear hxb
   have Q1 := hI (show (d : Int) + 1 = ((d + 1 : Nat) : Int) by omega)
   have HWF := hI (IH.out l[k].unl v.au v.nu v.cu (d + 1) (m + 1) bc w2 (by omega) hvn HO5.out (by omega) (by omega) (by omega) HUN.out HU2.out HX2.out HBC.out HC2.out)
   have e1 : 17 - (d + 1) = 17 - d - 1 := by omega
   rw [e1, <- HIT.out] at HWF
   clear e1
   go_wp2_with fail
   rw [Q1.out]
   refine HWF.out.mono ?_
   rintro r w3 ⟨m3, rfl, hc3, hm3, hT3, hch3⟩
   have HC3 := hI hc3
   have HT3 := hI hT3
   have HCH3 := hI (HCH2.out.then hch3)
   clear hc3 hT3 hch3 c0 c1 c2 c3 c4 c5 c6 c7 cf hltx
   cases hib : itemB (17 - d) l[k]
   ·have HF := hI (HFAL.out hib)
    simp only [Bool.false_and]
    clear hib
    go_wp2_with fail
    go_ret
    exact ⟨m3, by rw [HF.out]; rfl, HC3.out, hm3, fun h => (by rw [HF.out] at h; cases h), HCH3.out⟩
   have HIB := hI hib
   rw [hib] at HT3
   clear hib
   simp only [Bool.true_and]
   by_cases hs40 : m + 1 + wbN l[k].unl <= 40
   case neg =>
    have t4 : decide (m + 1 + wbN l[k].unl <= 40) = false := decide_eq_false hs40
    rw [t4]
    have HF := hI (HCNT.out (by have h1 := HM.out; have h2 := HTS.out; have h3 := HTL.out; omega))
    clear t4
    go_wp2_with fail
    go_ret
    exact ⟨m3, by rw [HF.out]; rfl, HC3.out, hm3, fun h => (by rw [HF.out] at h; cases h), HCH3.out⟩
   have t4 : decide (m + 1 + wbN l[k].unl <= 40) = true := decide_eq_true hs40
   rw [t4]
   have HMM := hI (HT3.out (by rw [t4]; rfl))
   clear t4
   go_wp2_with fail
   go_roundw
   case rel =>
    refine ⟨k + 1, m3, by go_num, by omega, fun j hj hjk => ?_, ?_, ?_, ?_, HC3.out, HCH3.out⟩
    ·by_cases e : j = k
     ·subst e; exact HIB.out
     exact HALL.out j hj (by omega)
    ·rw [HTS.out, HMM.out, HM.out]; omega
    ·rw [HMM.out]; exact hs40
    exact Or.inr h17
   case measure => simp [intOf]; omega
theorem firstI_all {f : Nat -> Int} {n : Nat} (h : (firstI f n).2 = 0) : ∀ j, j < n -> f j = 0 := by
 induction n with
 | zero => intro j hj; omega
 | succ n ih =>
  intro j hj
  rw [firstI] at h
  by_cases h1 : (firstI f n).2 ≠ 0
  ·rw [if_pos h1] at h; exact absurd h h1
  rw [if_neg h1] at h
  by_cases h2 : f n ≠ 0
  ·rw [if_pos h2] at h; exact absurd h h2
  by_cases e : j = n
  ·subst e; simpa using h2
  exact ih (by simpa using h1) j (by omega)
theorem schema_attrErr {s : List Attr} (h : schemaErr s = 0) {i : Nat} (hi : i < s.length) : attrErr s[i] = 0 := by
 unfold schemaErr at h
 by_cases h0 : s.length = 0
 ·rw [if_pos h0] at h; cases h
 rw [if_neg h0] at h
 by_cases h6 : 6 < s.length
 ·rw [if_pos h6] at h; cases h
 rw [if_neg h6] at h
 have := firstI_all h i hi
 unfold attrIErr at this
 rw [getD_attr hi] at this
 split at this
 ·cases this
 split at this
 ·cases this
 exact this
theorem attr_lohi {a : Attr} (h : attrErr a = 0) (hk : a.kind = 1 \/ a.kind = 3) : a.lo = 0 /\ a.hi = 0 := by
 unfold attrErr at h
 rcases hk with hk | hk
 ·rw [if_pos hk] at h
  split at h
  ·cases h
  rename_i h1
  omega
 rw [if_neg (by omega), if_neg (by omega), if_pos hk] at h
 split at h
 ·cases h
 rename_i h1
 omega
theorem cnode_eq {s : List Attr} {l : List Cla} (hs : schemaErr s = 0) {e : Ex} (he : okNode e) : cnodeErr s l e.op e.name e.words e.lo e.hi = nodeErr s l e.op e.name e.words e.lo e.hi := by
 have key : ∀ (ws vs : ZB), (ws.all fun x => decide (x ∈ vs)) = ws.all fun x => vs.any fun y => decide (y = x) := by
  intro ws vs
  congr 1
  funext x
  rw [Bool.eq_iff_iff]
  simp
 rcases he with ⟨h1, h2, h3, h4, h5, h6⟩ | ⟨h1, h2, h3, h4, h5, h6⟩ | ⟨h1, h2, h3, h4, h5, h6⟩ | ⟨h1, h2, h3, h4, h5, h6⟩ | ⟨h1, h2, h3, h4, h5, h6⟩ | ⟨h1, h2, h3, h4, h5, h6⟩ | ⟨h1, h2, h3, h4, h5, h6⟩
 ·rw [h1]; rfl
 ·rw [h1]; rfl
 ·rw [h1, h3, h4, h5]
  cases ho : attrAt s e.name with
  | none =>
   rw [cnode_none (by decide) ho]
   simp [nodeErr, ho]
  | some i =>
   have hi := attrAt_lt ho
   have e5 : nodeErr s l 3 e.name [] 0 0 = if s[i].kind ≠ 3 then 9 else 0 := by
    unfold nodeErr
    rw [if_pos rfl, ho]
    simp only [getD_attr hi]
   rw [cnode_some (by decide) ho hi, e5, show kindFor 3 = 3 from rfl]
   by_cases hk : s[i].kind = 3
   ·have := attr_lohi (schema_attrErr hs hi) (Or.inr hk)
    rw [this.1, this.2]
    simp [hk]
   rw [if_pos hk, if_pos hk]
 ·rw [h1, h4, h5]
  cases ho : attrAt s e.name with
  | none =>
   rw [cnode_none (by decide) ho]
   simp [nodeErr, ho]
  | some i =>
   have hi := attrAt_lt ho
   have e5 : nodeErr s l 4 e.name e.words 0 0 = if s[i].kind ≠ 1 then 9 else if (e.words.all fun x => s[i].words.any fun y => decide (y = x)) = false then 7 else 0 := by
    unfold nodeErr
    rw [if_neg (show ¬ (4 : Int) = 3 by decide), if_pos rfl, ho]
    simp only [getD_attr hi]
   rw [cnode_some (by decide) ho hi, e5, show kindFor 4 = 1 from rfl]
   by_cases hk : s[i].kind = 1
   ·have := attr_lohi (schema_attrErr hs hi) (Or.inl hk)
    rw [this.1, this.2, key]
    simp [hk]
   rw [if_pos hk, if_pos hk]
 ·rw [h1, h3]
  cases ho : attrAt s e.name with
  | none =>
   rw [cnode_none (by decide) ho]
   simp [nodeErr, ho]
  | some i =>
   have hi := attrAt_lt ho
   have e5 : nodeErr s l 5 e.name [] e.lo e.hi = if s[i].kind ≠ 2 then 9 else if e.lo < s[i].lo \/ s[i].hi < e.hi then 1 else 0 := by
    unfold nodeErr
    rw [if_neg (show ¬ (5 : Int) = 3 by decide), if_neg (show ¬ (5 : Int) = 4 by decide), if_pos rfl, ho]
    simp only [getD_attr hi]
   rw [cnode_some (by decide) ho hi, e5, show kindFor 5 = 2 from rfl]
   simp
 ·rw [h1]; rfl
 rcases h1 with h1 | h1 <;> (rw [h1]; rfl)
theorem cnodes_calls (s : List Attr) (hse : schemaErr s = 0) (l : List Cla) (hf : ∀ x ∈ s, x.fits) (hsl : s.length <= 1000000000000000) (bm nm : Nat) (m : Nat) : ∀ (e : Ex) (ev sv : Value) (w : World), e.size <= m -> m <= 1000000000000000 -> e.few -> e.fits -> okTree e -> IsSchema w s sv -> DefsAt w l bm nm -> IsEx w e ev ->
  Calls Tryz.prog 139 #[sv, .map (some bm), ev] w (GivesE (.int .i64 (nodesErr s l e)) w) := by
 induction m with
 | zero => intro e ev sv w h; have := size_pos e; omega
 | succ m ih =>
  intro e ev sv w hm hMM hfew hfit hok hs hd he
  obtain ⟨sa, sn, sc, rfl, hsn⟩ := hs.slice
  obtain ⟨hfw, hfa⟩ := few_parts hfew
  obtain ⟨hen, hft⟩ := fits_parts2 hfit
  have HN0 := hI (fun (W : World) (h1 : IsSchema W s (.agg #[.slice sa sn sc])) (h2 : DefsAt W l bm nm) (h3 : IsEx W e ev) => cnode_calls s (.agg #[.slice sa sn sc]) l bm nm e ev W h1 hf hsl h2 h3 hfw hen)
  rw [cnode_eq hse (okTree_parts hok).1] at HN0
  obtain ⟨aw, nw, cw, aa, na, ca, rfl, hw, hna, hca, ha, hx⟩ := he.parts
  have hS : e.size = 1 + sizes e.args := e.size_eq
  have hla := length_le_sizes e.args
  have hna2 : na <= 1000000000000000 := by omega
  have hsz : sizes e.args <= m := by omega
  have HE := hI he
  have HS := hI hs
  have HD := hI hd
  have HX := hI hx
  have HNA := hI hna
  have HFT := hI hft
  have HFA := hI hfa
  have HOK := hI (okTree_parts hok).2
  have HEQ := hI (nodesErr_eq s l e)
  have IH := hI ih
  clear hs hd he hx hna hw hca ha hS hla hsn hfw hfa hfew ih hf hm hft hfit hok
  unfold exV at *
  obtain ⟨wa, hwa⟩ : ∃ wa, wa = (w.alloc (.cells #[.slice sa sn sc] 24)).alloc (.cells #[.int .i64 e.op, .string e.name, .slice aw nw cw, .int .i64 e.lo, .int .i64 e.hi, .slice aa na ca] 45) := ⟨_, rfl⟩
  have hxa : Ext w wa := by rw [hwa]; exact ((Ext.refl _).alloc _).alloc _
  have hb0 : wa.heap[w.heap.size]? = some (.cells #[.slice sa sn sc] 24 (0, 0)) := by rw [hwa]; exact blk_alloc (alloc_new w _)
  have hb1 : wa.heap[w.heap.size + 1]? = some (.cells #[.int .i64 e.op, .string e.name, .slice aw nw cw, .int .i64 e.lo, .int .i64 e.hi, .slice aa na ca] 45 (0, 0)) := by rw [hwa]; exact alloc_atR (by simp)
  have HXA := hI hxa
  have HB0 := hI hb0
  have HB1 := hI hb1
  obtain ⟨a0, af⟩ := blk1 hb0
  obtain ⟨b0, b1, b2, b3, b4, b5, bf⟩ := blk6 hb1
  have hlt1 := blk_lt hb1
  have HN1 := hI (HN0.out wa (HS.out.ext hxa) (HD.out.ext hxa) (HE.out.ext hxa))
  clear hxa hb0 hb1 HN0
  obtain ⟨N, hN⟩ : ∃ N, N = nodeErr s l e.op e.name e.words e.lo e.hi := ⟨_, rfl⟩
  rw [<- hN] at HN1 HEQ
  obtain ⟨E, hE⟩ : ∃ E, E = nodesErr s l e := ⟨_, rfl⟩
  rw [<- hE] at HEQ ⊢
  clear hN hE
  go_enter Tryz.func139, Tryz.ntmps139
  go_upto_region 1 with fail
  rw [<- hwa]
  clear hwa
  go_wp2_with fail
  refine HN1.out.mono ?_
  rintro r w3 ⟨rfl, hx3⟩
  have HX3 := hI (HXA.out.trans hx3)
  have HB03 := hI (hx3.blk HB0.out)
  have HB13 := hI (hx3.blk HB1.out)
  clear hx3 a0 af b0 b1 b2 b3 b4 b5 bf hlt1
  by_cases hz : N = 0
  case neg =>
   have tz : (N != 0) = true := by simp [hz]
   have HQ := hI (show E = N by rw [HEQ.out, if_pos hz])
   clear hz
   go_wp2_with fail
   go_ret
   exact givesE_of (by rw [HQ.out]) HX3.out
  have tz : (N != 0) = false := by simp [hz]
  have HQ := hI (show E = nodesErrL s l e.args by rw [HEQ.out, if_neg (by simpa using hz)])
  clear hz HEQ
  obtain ⟨b0, b1, b2, b3, b4, b5, bf⟩ := blk6 HB13.out
  have hlt1 := blk_lt HB13.out
  go_wp2_with fail
  clear b0 b1 b2 b3 b4 b5 bf hlt1
  go_loopw [21] (fun t wr => ∃ k : Nat, t = .int .i64 k /\ k <= na /\ (∀ j (h : j < e.args.length), j < k -> nodesErr s l e.args[j] = 0) /\ wr.heap[w.heap.size]? = some (.cells #[.slice sa sn sc] 24 (0, 0)) /\ Ext w wr) (fun t _ => na - (intOf t).toNat)
  case atStart => exact ⟨0, rfl, by omega, fun j _ h => by omega, HB03.out, HX3.out⟩
  case round =>
   obtain ⟨k, rfl, hk, hall, hbx, hxr⟩ := hrel
   have HALL := hI hall
   have HBX := hI hbx
   have HXR := hI hxr
   obtain ⟨a0, af⟩ := blk1 hbx
   have hlt0 := blk_lt hbx
   clear hall hbx hxr
   by_cases hkn : k < na
   ·have hka : k < e.args.length := by have := HNA.out; omega
    have t1 : decide ((k : Int) < (na : Int)) = true := decide_eq_true (by omega)
    obtain ⟨b, off, rfl, aw1, nw1, cw1, aa1, na1, ca1, h0, h1, h2, h3, h4, h5, h6⟩ := ExsD.at e.args _ (ExsD.ext HXR.out e.args _ HX.out) k hka
    have hs1 := sizes_take_succ e.args k hka
    have hs2 := sizes_take_le e.args (k + 1)
    have hk1 : e.args[k].size <= m := by omega
    have hblt := block_lt h0
    simp only at hblt
    have HC := hI (fun (W : World) (hW : Ext wr W) => IH.out e.args[k] _ (.agg #[.slice sa sn sc]) W hk1 (by omega) (fewAll_at _ HFA.out k hka) (HFT.out _ (List.getElem_mem hka)) (HOK.out _ (List.getElem_mem hka)) (HS.out.ext (HXR.out.trans hW)) (HD.out.ext (HXR.out.trans hW)) (h6.ext hW))
    unfold exV at HC
    clear h6 hs1 hs2
    obtain ⟨E1, hE1⟩ : ∃ E1, E1 = nodesErr s l e.args[k] := ⟨_, rfl⟩
    rw [<- hE1] at HC
    have HE1 := hI hE1
    clear hE1
    go_wp2_with fail
    refine (HC.out _ ((Ext.refl wr).alloc _)).mono ?_
    rintro r w5 ⟨rfl, hx5⟩
    have HX5 := hI ((HXR.out.alloc _).trans hx5)
    have HB5 := hI (hx5.blk (blk_alloc HBX.out))
    clear hx5 h0 h1 h2 h3 h4 h5 a0 af hlt0 HC
    by_cases hz1 : E1 = 0
    ·have tz1 : (E1 != 0) = false := by simp [hz1]
     have HZ1 := hI (HE1.out.symm.trans hz1)
     clear hz1
     go_wp2_with fail
     go_roundw
     case rel =>
      refine ⟨k + 1, by go_num, by omega, fun j hj hjk => ?_, HB5.out, HX5.out⟩
      by_cases e0 : j = k
      ·subst e0; exact HZ1.out
      exact HALL.out j hj (by omega)
     case measure => simp [intOf]; omega
    have tz1 : (E1 != 0) = true := by simp [hz1]
    have HR := hI (show E = E1 by rw [HQ.out, nodesErrL_hit e.args k hka (by rw [<- HE1.out]; exact hz1) (fun j hj => HALL.out j (by omega) hj), HE1.out])
    clear hz1
    go_wp2_with fail
    go_ret
    exact givesE_of (by rw [HR.out]) HX5.out
   have t1 : decide ((k : Int) < (na : Int)) = false := decide_eq_false (by omega)
   have HR := hI (show E = 0 by rw [HQ.out, nodesErrL_zero e.args fun j hj => HALL.out j hj (by have := HNA.out; omega)])
   go_wp2_with fail
   go_ret
   exact givesE_of (by rw [HR.out]) HXR.out
def exprnErr (s : List Attr) (l : List Cla) (e : Ex) : Int := if refExprB e = false then 5 else nodesErr s l e
def exprErr (s : List Attr) (l : List Cla) (e : Ex) : Int := if schemaErr s ≠ 0 then schemaErr s else exprnErr s l e
theorem ref_okTree {e : Ex} (h : refExprB e = true) : okTree e := by
 rw [refExprB, Bool.and_eq_true, Bool.and_eq_true] at h
 exact (nodes_ok e).1 h.2
theorem cexpression_calls (s : List Attr) (hse : schemaErr s = 0) (l : List Cla) (hf : ∀ x ∈ s, x.fits) (hsl : s.length <= 1000000000000000) (bm nm : Nat) (e : Ex) (ev sv : Value) (w : World) (hfew : e.few) (hfit : e.fits) (ho : HasOps w) (hs : IsSchema w s sv) (hd : DefsAt w l bm nm) (he : IsEx w e ev) :
  Calls Tryz.prog 108 #[sv, .map (some bm), ev] w (GivesE (.int .i64 (exprnErr s l e)) w) := by
 obtain ⟨sa, sn, sc, rfl, hsn⟩ := hs.slice
 have HV := hI (fun (W : World) (hW : Ext w W) => Valid_calls e ev W (he.ext hW) (ho.ext hW) hfit)
 have HNC := hI (fun (W : World) (hW : Ext w W) (hz : refExprB e = true) => cnodes_calls s hse l hf hsl bm nm e.size e ev (.agg #[.slice sa sn sc]) W (Nat.le_refl _) (by
  rw [refExprB, Bool.and_eq_true, Bool.and_eq_true] at hz
  have h2 := hz.1.2
  simp only [decide_eq_true_eq] at h2
  unfold refSize at h2; omega) hfew hfit (ref_okTree hz) (hs.ext hW) (hd.ext hW) (he.ext hW))
 rw [validB_ref] at HV
 obtain ⟨aw, nw, cw, aa, na, ca, rfl, -⟩ := he.parts
 obtain ⟨R, hR⟩ : ∃ R, R = exprnErr s l e := ⟨_, rfl⟩
 rw [<- hR]
 have HR := hI (show R = if refExprB e = false then 5 else nodesErr s l e from hR)
 clear hf hfew hfit ho hs hd he hR hsn
 unfold exV at *
 obtain ⟨wa, hwa⟩ : ∃ wa, wa = (w.alloc (.cells #[.slice sa sn sc] 24)).alloc (.cells #[.int .i64 e.op, .string e.name, .slice aw nw cw, .int .i64 e.lo, .int .i64 e.hi, .slice aa na ca] 45) := ⟨_, rfl⟩
 have hxa : Ext w wa := by rw [hwa]; exact ((Ext.refl _).alloc _).alloc _
 have hb0 : wa.heap[w.heap.size]? = some (.cells #[.slice sa sn sc] 24 (0, 0)) := by rw [hwa]; exact blk_alloc (alloc_new w _)
 have hb1 : wa.heap[w.heap.size + 1]? = some (.cells #[.int .i64 e.op, .string e.name, .slice aw nw cw, .int .i64 e.lo, .int .i64 e.hi, .slice aa na ca] 45 (0, 0)) := by rw [hwa]; exact alloc_atR (by simp)
 have HXA := hI hxa
 have HB0 := hI hb0
 have HB1 := hI hb1
 obtain ⟨b0, b1, b2, b3, b4, b5, bf⟩ := blk6 hb1
 have hlt1 := blk_lt hb1
 have HV1 := hI (HV.out wa hxa)
 clear hxa hb0 hb1 HV
 obtain ⟨B, hB⟩ : ∃ B, B = refExprB e := ⟨_, rfl⟩
 rw [<- hB] at HV1 HR
 have HBB := hI hB
 clear hB
 go_enter Tryz.func108, Tryz.ntmps108
 go_upto_region 1 with fail
 rw [<- hwa]
 clear hwa
 go_wp2_with fail
 refine HV1.out.mono ?_
 rintro r w3 ⟨rfl, hx3⟩
 have HX3 := hI (HXA.out.trans hx3)
 have HB03 := hI (hx3.blk HB0.out)
 have HB13 := hI (hx3.blk HB1.out)
 clear hx3 b0 b1 b2 b3 b4 b5 bf hlt1
 cases B
 ·have HF := hI (show R = 5 by rw [HR.out]; rfl)
  go_wp2_with fail
  go_ret
  exact givesE_of (by rw [HF.out]) HX3.out
 have HF := hI (show R = nodesErr s l e by rw [HR.out]; rfl)
 obtain ⟨b0, b1, b2, b3, b4, b5, bf⟩ := blk6 HB13.out
 obtain ⟨a0, af⟩ := blk1 HB03.out
 have hlt1 := blk_lt HB13.out
 go_wp2_with fail
 refine (HNC.out w3 HX3.out HBB.out.symm).mono ?_
 rintro r w5 ⟨rfl, hx5⟩
 have HX5 := hI (HX3.out.trans hx5)
 clear hx5
 go_wp2_with fail
 go_ret
 exact givesE_of (by rw [HF.out]) HX5.out
theorem valHd_at {s : List Attr} {f : ZI} {D : BA -> Option Bool} (l : List Ex) : valHd s f D l = (l[0]?.map (valE s f D)).getD false := by
 cases l <;> simp [valHd]
noncomputable def evalErr (s : List Attr) (l : List Cla) (e : Ex) (f : ZI) : Int :=
 if (clausesErr s l).2 ≠ 0 then (clausesErr s l).2 else if exprErr s l e ≠ 0 then exprErr s l e else if 2000 < expanded l e then 4 else if factsB s f = false then 16 else 0
structure Ok11 (s : List Attr) (l : List Cla) (e : Ex) (f : ZI) : Prop where
 cls : (clausesErr s l).2 = 0
 ref : refExprB e = true
 node : nodesErr s l e = 0
 exp : expanded l e <= 2000
 facts : factsAll s f = true
theorem Ok11.chk {s : List Attr} {l : List Cla} {e : Ex} {f : ZI} (h : Ok11 s l e f) : Chk s l := chk_of h.cls
theorem evalErr_ok {s : List Attr} {l : List Cla} {e : Ex} {f : ZI} (h : evalErr s l e f = 0) : Ok11 s l e f := by
 unfold evalErr at h
 by_cases h1 : (clausesErr s l).2 ≠ 0
 ·rw [if_pos h1] at h; exact absurd h h1
 rw [if_neg h1] at h
 by_cases h2 : exprErr s l e ≠ 0
 ·rw [if_pos h2] at h; exact absurd h h2
 rw [if_neg h2] at h
 by_cases h3 : 2000 < expanded l e
 ·rw [if_pos h3] at h; cases h
 rw [if_neg h3] at h
 by_cases h4 : factsB s f = false
 ·rw [if_pos h4] at h; cases h
 have h1 : (clausesErr s l).2 = 0 := by simpa using h1
 have hs := (chk_of h1).sch
 have h2 : exprErr s l e = 0 := by simpa using h2
 unfold exprErr at h2
 rw [if_neg (by simpa using hs)] at h2
 unfold exprnErr at h2
 by_cases h5 : refExprB e = false
 ·rw [if_pos h5] at h2; cases h2
 rw [if_neg h5] at h2
 have h4 : factsB s f = true := by simpa using h4
 simp only [factsB, Bool.and_eq_true] at h4
 exact ⟨h1, by simpa using h5, h2, by omega, h4.2⟩
theorem Ok11.tree {s : List Attr} {l : List Cla} {e : Ex} {f : ZI} (h : Ok11 s l e f) : okTree e := by
 have := h.ref
 rw [refExprB, Bool.and_eq_true, Bool.and_eq_true] at this
 exact (nodes_ok _).1 this.2
theorem Ok11.size {s : List Attr} {l : List Cla} {e : Ex} {f : ZI} (h : Ok11 s l e f) : e.size <= 300 := by
 have := h.ref
 rw [refExprB, Bool.and_eq_true, Bool.and_eq_true] at this
 have := this.1.2
 simp only [decide_eq_true_eq] at this
 unfold refSize at this
 omega
end Go.Proofs.YtefjomofjejklaaGreatDoor
