/-
  Texts of the claim, joined: Reach, Expd, CClas, Chkd.
-/
import Derived.Test.YtefjomofjejklaaGreatDoorDt20
namespace Go.Proofs.YtefjomofjejklaaGreatDoor
set_option maxRecDepth 100000
set_option maxHeartbeats 32000000
open Go.RowKit Go.Maps
theorem zeroUnit (w : World) : (zeroValue 176).run Tryz.prog w = .ok (.agg #[]) w := by kernel_rfl
def ReachQ (l : List Cla) (e : Ex) (w : World) (r : Ending) (w' : World) : Prop := ∃ u a n c, r = .returned (.slice a n c) /\ IsClas w' u a n c /\ Used l e u /\ Ext w w'
def RL1 (w : World) (l : List Cla) (e : Ex) (bs m : Nat) (lv xv : Value) (wr : World) : Prop := ∃ u vs xs evs, m = 2 * (l.length - u.length) + xs.length /\ RcS w bs lv xv u vs xs evs wr /\ RP l e u xs
def RL2 (w : World) (l : List Cla) (e x : Ex) (ns : ZB) (na : OA) (nc bs m : Nat) (lv xv i : Value) (wr : World) : Prop := ∃ u vs xs evs j, i = .int .i64 (j : Nat) /\ j <= ns.length /\ 2 * (l.length - u.length) + xs.length <= m /\ RcS w bs lv xv u vs xs evs wr /\ RPi l e u xs x ns j /\ IsStrs wr ns na ns.length nc /\ (∀ b off, na = some ⟨b, off, none⟩ -> b ≠ bs /\ some b ≠ lv.ownBlock /\ some b ≠ xv.ownBlock)
theorem exs_last {w : World} {xs : List Ex} {evs : List ExV} (h : ExsR w xs evs) (hne : xs ≠ []) : ∃ xs' x evs' v, xs = xs' ++ [x] /\ evs = evs' ++ [v] /\ ExsR w xs' evs' /\ IsEx w x v.val := by
 obtain ⟨xs', x, rfl⟩ : ∃ r i, xs = r ++ [i] := ⟨xs.dropLast, xs.getLast hne, (List.dropLast_concat_getLast hne).symm⟩
 have hne2 : evs ≠ [] := by intro e0; have := h.1; rw [e0] at this; simp at this
 obtain ⟨evs', v, rfl⟩ : ∃ r i, evs = r ++ [i] := ⟨evs.dropLast, evs.getLast hne2, (List.dropLast_concat_getLast hne2).symm⟩
 have hl : xs'.length = evs'.length := by have := h.1; simpa using this
 refine ⟨xs', x, evs', v, rfl, rfl, ⟨hl, fun i h1 h2 => ?_⟩, ?_⟩
 ·have := h.2 i (by simp; omega) (by simp; omega)
  rwa [List.getElem_append_left h1, List.getElem_append_left h2] at this
 have := h.2 xs'.length (by simp) (by simp; omega)
 rw [List.getElem_append_right (Nat.le_refl _)] at this
 simpa [hl] using this
theorem to_mask_nil (w : World) : Sub w (mask w []) := fun p v h => by rw [mask_cell, if_neg (by simp)]; exact h
theorem cond_of {l u : List Cla} {e : Ex} (h1 : ∀ c ∈ u, c.kind = 1 /\ ∃ d, defAt l c.name = some d /\ c.cond = (l.getD d cla0).cond /\ Reach l e d) (hsz : ∀ x ∈ l, x.cond.size <= 100000 /\ x.cond.fits) {c : Cla} (hc : c ∈ u) : c.cond.size <= 100000 /\ c.cond.fits := by
 obtain ⟨_, d, hd, h2, _⟩ := h1 c hc
 rw [h2, getD_cla (defAt_lt hd)]
 exact hsz _ (List.getElem_mem _)
theorem reached_calls (l : List Cla) (e : Ex) (ev : Value) (b n : Nat) (w : World) (hd : DefsAt w l b n) (he : IsEx w e ev) (hes : e.size <= 100000 /\ e.fits) (hl : l.length <= 100000) (hsz : ∀ x ∈ l, x.cond.size <= 100000 /\ x.cond.fits) :
  Calls Tryz.prog 173 #[.map (some b), ev] w (ReachQ l e w) := by
 obtain ⟨g, hmp, hdg⟩ := hd
 obtain ⟨aw, nw, cw, aa, na, ca, rfl, -⟩ := he.parts
 have HMP := hI hmp
 have HDG := hI hdg
 have HE := hI he
 have HSZ := hI hsz
 have HES := hI hes
 clear hmp hdg he hsz hes
 unfold exV
 have hmm := @run_makeMap Tryz.prog
 obtain ⟨wa, hwa⟩ : ∃ wa, wa = w.alloc (.cells #[.int .i64 e.op, .string e.name, .slice aw nw cw, .int .i64 e.lo, .int .i64 e.hi, .slice aa na ca] 45) := ⟨_, rfl⟩
 have hxa : Ext w wa := by rw [hwa]; exact (Ext.refl _).alloc _
 have hb1 : wa.heap[w.heap.size]? = some (.cells #[.int .i64 e.op, .string e.name, .slice aw nw cw, .int .i64 e.lo, .int .i64 e.hi, .slice aa na ca] 45 (0, 0)) := by rw [hwa]; exact alloc_new w _
 have hsa : wa.heap.size = w.heap.size + 1 := by rw [hwa]; simp
 have HXA := hI hxa
 have HSA := hI hsa
 clear hsa
 go_enter Tryz.func173, Tryz.ntmps173
 go_upto_region 1 with fail
 rw [<- hwa]
 clear hwa
 obtain ⟨bs, hbs⟩ : ∃ bs, bs = wa.heap.size := ⟨_, rfl⟩
 have HM0 := hI (MapAt.made wa 9)
 rw [<- hbs] at HM0
 have HBS := hI hbs
 go_upto_region 3 with fail
 rw [<- hbs]
 clear hbs
 obtain ⟨wb, hwb⟩ : ∃ wb, wb = wa.alloc (.map #[] 0) := ⟨_, rfl⟩
 have HXB := hI (show Ext wa wb by rw [hwb]; exact (Ext.refl _).alloc _)
 obtain ⟨f0, f1, f2, f3, f4, f5, ff⟩ := blk6 (HXB.out.blk hb1)
 rw [<- hwb] at HM0 ⊢
 have hsb : wb.heap.size = w.heap.size + 2 := by rw [hwb]; simp; have := HSA.out; omega
 have HSB := hI hsb
 clear hwb hb1 hsb
 go_wp2_with fail
 have HRS := hI (show RcS w bs (.slice none 0 0) (.slice (some ⟨wb.heap.size, 0, none⟩) 1 1) [] [] [e] [⟨e.op, e.name, aw, nw, cw, e.lo, e.hi, aa, na, ca⟩] (wb.alloc (.cells #[.int .i64 e.op, .string e.name, .slice aw nw cw, .int .i64 e.lo, .int .i64 e.hi, .slice aa na ca] 45)) from
  {ext := (HXA.out.trans HXB.out).alloc _
   cla := ⟨rfl, fun i h => by simp at h⟩
   own := World.ownsRow_nil _ _ _ _
   ex := ⟨rfl, fun i h1 h2 => by
     obtain rfl : i = 0 := by simp at h1; exact h1
     exact HE.out⟩
   xown := owns_new wb _ _ (n := 1) (by simp) (by unfold maxLen; omega) (by have := HSB.out; omega)
   seen := (HM0.out.ext ((Ext.refl _).alloc _)).congr fun x => by cases x <;> simp [strF, memF, nmsOf]
   bsn := by have := HBS.out; have := HSA.out; omega
   d1 := by simp [Value.ownBlock]
   d2 := by simp [Value.ownBlock]; have := HBS.out; have := HSA.out; have := HSB.out; omega
   d3 := by simp [Value.ownBlock] })
 clear f0 f1 f2 f3 f4 f5 ff HM0 HXB HXA
 go_loopg [5, 7] (2 * l.length + 1) (RL1 w l e bs)
 case atStart => exact ⟨[], [], [e], _, rfl, HRS.out, RP.start l e⟩
 case round =>
  obtain ⟨u, vs, xs, evs, hm, hrs, hrp⟩ := hrel
  obtain ⟨wo, rfl⟩ : ∃ wo : World, wo = wr := ⟨_, rfl⟩
  clear HRS
  have HM := hI hm
  have HR := hI hrs
  have HP := hI hrp
  have hul := defs_len hrp.defs hrp.names
  obtain ⟨la, lc, hlv⟩ := owns_form hrs.own
  subst hlv
  clear hm
  by_cases hne : xs = []
  ·subst hne
   obtain ⟨xa, xc, hxv⟩ := owns_form hrs.xown
   subst hxv
   obtain ⟨a', c', hv, hcl⟩ := clas_owns (M := []) hrs.own (by simp) (hrs.cla.mono (hrs.ext.sub.trans (to_mask_nil _)))
   have HCL := hI hcl
   have HV := hI hv
   clear hrs hrp hv hcl
   go_wp2_with fail
   go_ret
   rw [HV.out]
   exact ⟨u, a', _, c', rfl, HCL.out.mono (mask_sub _ _), HP.out.used, HR.out.ext⟩
  obtain ⟨xs', x, evs', v, rfl, rfl, hx1, hx2⟩ := exs_last hrs.ex hne
  obtain ⟨n', hn'⟩ : ∃ n', n' = xs'.length := ⟨_, rfl⟩
  have hl' : n' = evs'.length := by rw [hn']; exact hx1.1
  have hxo := hrs.xown
  have e0 : (xs' ++ [x]).length = n' + 1 := by simp [hn']
  rw [e0] at hxo
  obtain ⟨g2, cap, rfl, c0, c1, c2, c3, c4, c5⟩ := owns_last hl' hxo
  have hsx : x.size <= 100000 /\ x.fits := by
   rcases hrp.stack x (by simp) with rfl | ⟨c, hc, rfl⟩
   ·exact HES.out
   exact cond_of hrp.defs HSZ.out hc
  have HX2 := hI (hx2.ext hrs.ext)
  have HSX := hI hsx
  have HLN := hI hn'
  have HL' := hI hl'
  obtain ⟨hg2, hcap, hgw, -⟩ := owns_bounds hxo
  have HRI := hI (show RcS w bs (.slice la u.length lc) (.slice (some ⟨g2, 0, none⟩) n' cap) u vs xs' evs' wo from { hrs with ex := hx1, xown := (by rw [<- hn']; exact owns_drop hl' hxo), d2 := (fun g hg => hrs.d2 g (by simpa [Value.ownBlock] using hg)), d3 := fun g hg hg2 => hrs.d3 g hg (by simpa [Value.ownBlock] using hg2) })
  have HPP := hI (hrp.pop (refNames (namesE x)))
  have hnn : n' <= u.length := by have := hrp.slen; simp at this; omega
  clear hrs hrp hx1 hx2 hsx hn' hl' hxo e0 hne
  have e1 : (((n' + 1 : Nat) : Int) - 1) = (n' : Int) := by omega
  have t1 : decide ((0 : Int) < ((n' + 1 : Nat) : Int)) = true := decide_eq_true (by omega)
  go_wp2_with fail
  refine (synNamesF_calls x _ wo (by have := HSX.out.1; omega) HSX.out.2 HX2.out).mono ?_
  obtain ⟨ns, hns⟩ : ∃ ns, ns = refNames (namesE x) := ⟨_, rfl⟩
  have HNM := hI (show ∀ s, s ∈ ns ↔ s ∈ namesE x by intro s; rw [hns, refNames_mem])
  rw [<- hns] at HPP ⊢
  have HNS := hI (show ∀ s ∈ ns, s.size <= 1000000000000000 from fun s hs => names_fit x HSX.out.2 s ((HNM.out s).1 hs))
  have hnl : ns.length <= 100000 := by rw [hns]; exact Nat.le_trans (refNames_len2 _) (Nat.le_trans (namesE_len _) HSX.out.1)
  clear hns
  rintro r w5 ⟨sa, sc, rfl, hst, hx5, hfr⟩
  have HST := hI hst
  have hbw := HRI.out.seen.lt
  have HFR := hI (show ∀ b off, sa = some ⟨b, off, none⟩ -> b ≠ bs /\ some b ≠ (Value.slice la u.length lc).ownBlock /\ some b ≠ (Value.slice (some ⟨g2, 0, none⟩) n' cap).ownBlock from fun b' off' e' => by
   have h1 := hfr b' off' e'
   refine ⟨by omega, fun e2 => ?_, fun e2 => ?_⟩
   ·have := (HRI.out.own.lt b' e2.symm).2; omega
   simp [Value.ownBlock] at e2; omega)
  have HR5 := hI (HRI.out.extd hx5)
  clear hst hx5 hfr HRI c0 c1 c2 c3 c4 c5 HX2 HSX
  go_wp2_with fail
  go_loopw [5, 7, 35] (RL2 w l e x ns sa sc bs (2 * (l.length - u.length) + n')) (fun _ _ i _ => ns.length - (intOf i).toNat)
  case atStart => exact ⟨u, vs, xs', evs', 0, rfl, by omega, by have := HLN.out; omega, HR5.out, HPP.out, HST.out, HFR.out⟩
  case round =>
   obtain ⟨u2, vs2, xs2, ev2, j, rfl, hj, hm2, hr2, hp2, hst2, hfr2⟩ := hrel
   obtain ⟨la2, lc2, hlv2⟩ := owns_form hr2.own
   subst hlv2
   obtain ⟨xa2, xc2, hxv2⟩ := owns_form hr2.xown
   subst hxv2
   have HR2 := hI hr2
   have HP2 := hI hp2
   have HS2 := hI hst2
   have HF2 := hI hfr2
   have HM2 := hI hm2
   have hu2 := defs_len hp2.defs hp2.names
   have hx2l := hp2.slen
   clear hr2 hp2 hst2 hfr2 hm2 HR5 HPP HST HFR
   by_cases hjl : j < ns.length
   ·have tj : decide ((j : Int) < (ns.length : Int)) = true := decide_eq_true (by omega)
    obtain ⟨bn, offn, rfl, cn0⟩ := HS2.out.2.2.2 j hjl
    have hsz1 := HNS.out _ (List.getElem_mem hjl)
    have HXW := hI HR2.out.ext
    by_cases hmem : ns[j] ∈ nmsOf u2
    ·have HSN := hI (show strF (memF fun s => s ∈ nmsOf u2) (.string ns[j].data.toList) = some (.agg #[]) by rw [strF_at]; simp [memF, hmem])
     have HSK := hI (HP2.out.skip hjl (Or.inr hmem))
     cases hda : defAt l ns[j] with
     | none =>
      have HF := hI (show strF g (.string ns[j].data.toList) = none by rw [strF_at]; exact (HDG.out _).1 hda)
      clear hda hmem
      go_wp2_with (first
       | (at_lookup; refine wpList_map_ok _ rfl _ _ 131 rfl 9 45 keyedStr uMapSE (zeroEx _) b n _ rfl (HMP.out.ext HXW.out) _ _ rfl (keyStr hsz1) trivial ?_; rw [HF.out])
       | (at_lookup; refine wpList_map_ok _ rfl _ _ 174 rfl 9 176 keyedStr uSet (zeroUnit _) bs u2.length _ rfl (HR2.out.seen.ext ((Ext.refl wr).alloc _)) _ _ rfl (keyStr hsz1) trivial ?_; rw [HSN.out]))
      go_roundw
      case rel => exact ⟨u2, vs2, xs2, ev2, j + 1, by go_num, by omega, HM2.out, HR2.out.extd (((Ext.refl wr).alloc _).alloc _), HSK.out, HS2.out.ext (((Ext.refl wr).alloc _).alloc _), HF2.out⟩
      case measure => simp [intOf]; omega
     | some d =>
      obtain ⟨uv, hu, hux⟩ := (HDG.out ns[j]).2 d hda
      obtain ⟨aw2, nw2, cw2, aa2, na2, ca2, rfl, -, -, -, -, -⟩ := hux.parts
      have HF := hI (show strF g (.string ns[j].data.toList) = some _ by rw [strF_at]; exact hu)
      unfold exV at HF
      clear hda hmem hu hux
      go_wp2_with (first
       | (at_lookup; refine wpList_map_ok _ rfl _ _ 131 rfl 9 45 keyedStr uMapSE (zeroEx _) b n _ rfl (HMP.out.ext HXW.out) _ _ rfl (keyStr hsz1) trivial ?_; rw [HF.out])
       | (at_lookup; refine wpList_map_ok _ rfl _ _ 174 rfl 9 176 keyedStr uSet (zeroUnit _) bs u2.length _ rfl (HR2.out.seen.ext ((Ext.refl wr).alloc _)) _ _ rfl (keyStr hsz1) trivial ?_; rw [HSN.out]))
      go_roundw
      case rel => exact ⟨u2, vs2, xs2, ev2, j + 1, by go_num, by omega, HM2.out, HR2.out.extd (((Ext.refl wr).alloc _).alloc _), HSK.out, HS2.out.ext (((Ext.refl wr).alloc _).alloc _), HF2.out⟩
      case measure => simp [intOf]; omega
    have HSN := hI (show strF (memF fun s => s ∈ nmsOf u2) (.string ns[j].data.toList) = none by rw [strF_at]; simp [memF, hmem])
    cases hda : defAt l ns[j] with
    | none =>
     have HSK := hI (HP2.out.skip hjl (Or.inl hda))
     have HF := hI (show strF g (.string ns[j].data.toList) = none by rw [strF_at]; exact (HDG.out _).1 hda)
     clear hda hmem
     go_wp2_with (first
      | (at_lookup; refine wpList_map_ok _ rfl _ _ 131 rfl 9 45 keyedStr uMapSE (zeroEx _) b n _ rfl (HMP.out.ext HXW.out) _ _ rfl (keyStr hsz1) trivial ?_; rw [HF.out])
      | (at_lookup; refine wpList_map_ok _ rfl _ _ 174 rfl 9 176 keyedStr uSet (zeroUnit _) bs u2.length _ rfl (HR2.out.seen.ext ((Ext.refl wr).alloc _)) _ _ rfl (keyStr hsz1) trivial ?_; rw [HSN.out]))
     go_roundw
     case rel => exact ⟨u2, vs2, xs2, ev2, j + 1, by go_num, by omega, HM2.out, HR2.out.extd (((Ext.refl wr).alloc _).alloc _), HSK.out, HS2.out.ext (((Ext.refl wr).alloc _).alloc _), HF2.out⟩
     case measure => simp [intOf]; omega
    | some d =>
     obtain ⟨uv, hu, hux⟩ := (HDG.out ns[j]).2 d hda
     have hux2 := hux
     obtain ⟨aw2, nw2, cw2, aa2, na2, ca2, rfl, -, -, -, -, -⟩ := hux.parts
     have HF := hI (show strF g (.string ns[j].data.toList) = some _ by rw [strF_at]; exact hu)
     obtain ⟨xe, hxe⟩ : ∃ xe, xe = (l.getD d cla0).cond := ⟨_, rfl⟩
     rw [<- hxe] at HF hux2
     have HST := hI (HP2.out.step hjl HNM.out hda hmem (c := ⟨1, ns[j], xe, [], 0⟩) rfl rfl hxe)
     have HUX := hI hux2
     unfold exV at HF
     clear hda hmem hu hux hux2 hxe
     go_wp2_with (first
      | (at_lookup; refine wpList_map_ok _ rfl _ _ 131 rfl 9 45 keyedStr uMapSE (zeroEx _) b n _ rfl (HMP.out.ext HXW.out) _ _ rfl (keyStr hsz1) trivial ?_; rw [HF.out])
      | (at_lookup; refine wpList_map_ok _ rfl _ _ 174 rfl 9 176 keyedStr uSet (zeroUnit _) bs u2.length _ rfl (HR2.out.seen.ext ((Ext.refl wr).alloc _)) _ _ rfl (keyStr hsz1) trivial ?_; rw [HSN.out])
      | (at_mapUpdate; refine wpList_map_put _ rfl _ _ _ 174 rfl 9 176 keyedStr uSet bs u2.length _ rfl (HR2.out.seen.ext (((Ext.refl wr).alloc _).alloc _)) ?c3 _ _ _ rfl rfl (keyStr hsz1) trivial ?_))
     case c3 => unfold maxLen; omega
     intro w3 hm3 hc3
     have hbx := hc3.blk (((Ext.refl _).alloc _).blk (alloc_new wr (.cells #[.int .i64 xe.op, .string xe.name, .slice aw2 nw2 cw2, .int .i64 xe.lo, .int .i64 xe.hi, .slice aa2 na2 ca2] 45))) (by have := HR2.out.seen.lt; simp; omega)
     have HBX := hI hbx
     obtain ⟨f0, f1, f2, f3, f4, f5, ff⟩ := blk6 hbx
     have HW3 := hI hc3
     have HM3 := hI hm3
     have HRW := hI (HR2.out.extd (((Ext.refl wr).alloc (.cells #[.int .i64 xe.op, .string xe.name, .slice aw2 nw2 cw2, .int .i64 xe.lo, .int .i64 xe.hi, .slice aa2 na2 ca2] 45)).alloc (.cells #[] 176)))
     have HO3 := hI (owns_chg HRW.out.own hc3 fun q hq hm => by simp only [List.mem_singleton] at hm; exact HRW.out.d1 q hq hm)
     have h3s := hc3.size
     have h3s2 : wr.heap.size <= w3.heap.size := Nat.le_trans (((Ext.refl wr).alloc _).alloc _).size hc3.size
     have hww := HRW.out.ext.size
     clear hm3 hc3 HF HSN hbx
     go_wp2_with (at_builtin; refine wpList_append_at elemCla rfl _ _ rfl w.heap.size _ u2.length _ rfl HO3.out _ 1 1 rfl ?f0 rfl ?f1 ?f2 ?f3 ?f4 ?_)
     case f0 => simp
     case f1 => simp [Value.oneCell']
     case f2 => unfold maxLen; omega
     case f3 => omega
     case f4 => omega
     intro v8 w8 hown8 hc8 hw8
     obtain ⟨a8, c8, hv8⟩ := owns_form hown8
     subst hv8
     obtain ⟨f0, f1, f2, f3, f4, f5, ff⟩ := blk6 (hc8.blk HBX.out fun hm => by have := (HR2.out.own.lt _ (mem_rowOf.1 hm)).2; omega)
     have HX8 := hI (owns_chg (owns_chg HRW.out.xown HW3.out fun q hq hm => by simp only [List.mem_singleton] at hm; exact HRW.out.d2 q hq hm) hc8 fun q hq hm => HRW.out.d3 q (mem_rowOf.1 hm) hq)
     have HO8 := hI hown8
     have HC8 := hI hc8
     have HW8 := hI hw8
     have h8s := hc8.size
     clear hown8 hc8 hw8
     go_wp2_with (at_builtin; refine wpList_append_at elemEx rfl _ _ rfl w.heap.size _ xs2.length _ rfl HX8.out _ 1 1 rfl ?g0 rfl ?g1 ?g2 ?g3 ?g4 ?_)
     case g0 => simp
     case g1 => simp [Value.oneCell']
     case g2 => unfold maxLen; omega
     case g3 => omega
     case g4 => omega
     intro v9 w9 hown9 hc9 hw9
     obtain ⟨a9, c9, hv9⟩ := owns_form hown9
     subst hv9
     have HR9 := hI (HRW.out.step (c := ⟨1, ns[j], xe, [], 0⟩) (cv := ⟨1, ns[j], ⟨xe.op, xe.name, aw2, nw2, cw2, xe.lo, xe.hi, aa2, na2, ca2⟩, none, 0, 0, 0⟩) ⟨rfl, rfl, HUX.out, rfl, Nat.le_refl _, Or.inl ⟨rfl, rfl⟩, by simp only; unfold WbsD; trivial, rfl⟩ (x := xe) (ev := ⟨xe.op, xe.name, aw2, nw2, cw2, xe.lo, xe.hi, aa2, na2, ca2⟩) HUX.out HM3.out (fun y => by
      rw [memF_step]
      congr 2
      funext z
      rw [nmsOf_snoc]
      simp [or_comm]) HW3.out HO8.out HC8.out HW8.out hown9 hc9 hw9)
     have HS9 := hI ((((HS2.out.ext (((Ext.refl wr).alloc _).alloc _)).chg HW3.out (fun b' off' e' hm => (HF2.out b' off' e').1 (by simpa using hm))).chg HC8.out (fun b' off' e' hm => (HF2.out b' off' e').2.1 (mem_rowOf.1 hm).symm)).chg hc9 (fun b' off' e' hm => (HF2.out b' off' e').2.2 (mem_rowOf.1 hm).symm))
     have HF9 := hI (show ∀ b off, some (⟨bn, offn, none⟩ : Addr) = some ⟨b, off, none⟩ -> b ≠ bs /\ some b ≠ (Value.slice a8 (u2.length + 1) c8).ownBlock /\ some b ≠ (Value.slice a9 (xs2.length + 1) c9).ownBlock from fun b' off' e' => by
      obtain ⟨q1, q2, q3⟩ := HF2.out b' off' e'
      have hbl : b' < wr.heap.size := by
       simp only [Option.some.injEq, Addr.mk.injEq, and_true] at e'
       have := block_lt cn0
       simp only at this; omega
      refine ⟨q1, fun e2 => ?_, fun e2 => ?_⟩
      ·rcases HW8.out b' e2.symm with h | h
       ·exact q2 h.symm
       omega
      rcases hw9 b' e2.symm with h | h
      ·exact q3 h.symm
      omega)
     clear hown9 hc9 hw9 f0 f1 f2 f3 f4 f5 ff cn0
     go_wp2_with fail
     go_roundw
     case rel =>
      have hmm : 2 * (l.length - (u2 ++ [(⟨1, ns[j], xe, [], 0⟩ : Cla)]).length) + (xs2 ++ [xe]).length <= 2 * (l.length - u.length) + n' := by
       have h1 := HM2.out
       have h2 := defs_len HST.out.defs HST.out.names
       simp only [List.length_append, List.length_singleton] at h2 ⊢
       omega
      exact ⟨u2 ++ [⟨1, ns[j], xe, [], 0⟩], _, xs2 ++ [xe], _, j + 1, by go_num, by omega, hmm, HR9.out, HST.out, HS9.out, HF9.out⟩
     case measure => simp [intOf]; omega
   have tj : decide ((j : Int) < (ns.length : Int)) = false := decide_eq_false (by omega)
   have HPE := hI (HP2.out.end (by omega) HNM.out)
   go_wp2_with fail
   go_roundg (2 * (l.length - u2.length) + xs2.length)
   case rel => exact ⟨u2, vs2, xs2, ev2, rfl, HR2.out, HPE.out⟩
   case measure => have h1 := HM.out; have h2 := HM2.out; have h3 := HLN.out; simp at h1; omega
def expd1R (l : List Cla) (e : Ex) (aw : OA) (nw cw : Nat) (aa : OA) (na ca : Nat) (a : OA) (n c : Nat) : Nat -> Value -> World -> Prop
 | 0, u, _ => u = .slice a n c
 | 1, u, W => ∃ bd, u = .map (some bd) /\ DefsAt W l bd n
 | 2, u, _ => u = .agg #[.int .i64 e.op, .string e.name, .slice aw nw cw, .int .i64 e.lo, .int .i64 e.hi, .slice aa na ca]
 | 3, u, W => ∃ us ua un uc, u = .slice ua un uc /\ (IsClas W us ua un uc /\ Used l e us)
 | _, u, W => ∃ us ua un uc, u = .slice ua un uc /\ (IsClas W us ua un uc /\ Used l e us)
def expd5R (_l : List Cla) (e : Ex) (aw : OA) (nw cw : Nat) (aa : OA) (na ca : Nat) (_a : OA) (_n _c : Nat) (us : List Cla) (ua : OA) (un uc : Nat) (oa : OA) (oc : Nat) (o : ZN) (R : Nat) : Nat -> Value -> World -> Prop
 | 0, u, _ => u = .slice ua un uc
 | 1, u, _ => u = .slice oa o.length oc
 | 2, u, W => ∃ bd, u = .map (some bd) /\ MapAt W 9 bd o.length (strF (natF (sizesF us o)))
 | 3, u, _ => u = .agg #[.int .i64 e.op, .string e.name, .slice aw nw cw, .int .i64 e.lo, .int .i64 e.hi, .slice aa na ca]
 | 4, u, _ => u = .int .i64 R
 | _, u, _ => u = .int .i64 R
theorem cExpanded_calls (l : List Cla) (a : OA) (n c : Nat) (e : Ex) (ev : Value) (w : World) (hl : IsClas w l a n c) (he : IsEx w e ev) (hes : e.size <= 100000 /\ e.fits /\ bareE e = true) (hn : n <= 1000) (hsz : ∀ x ∈ l, x.name.size <= 1000000000000000 /\ x.cond.size <= 100000 /\ x.cond.fits /\ bareE x.cond = true) :
  Calls Tryz.prog 146 #[.slice a n c, ev] w (GivesE (.int .i64 (expanded l e : Nat)) w) := by
 have hln := hl.len
 obtain ⟨aw, nw, cw, aa, na, ca, rfl, -⟩ := he.parts
 have HL := hI hl
 have HE := hI he
 have HES := hI hes
 have HSZ := hI hsz
 have HLN := hI hln
 have HR := hI (show ∀ b m W, DefsAt W l b m -> Ext w W -> Calls Tryz.prog 173 #[.map (some b), exV e.op e.name aw nw cw e.lo e.hi aa na ca] W (ReachQ l e W) from fun b m W hd hx => reached_calls l e _ b m W hd (he.ext hx) ⟨hes.1, hes.2.1⟩ (by omega) fun x hx => ⟨(hsz x hx).2.1, (hsz x hx).2.2.1⟩)
 clear hl he hes hsz hln
 unfold exV at HR
 unfold exV
 obtain ⟨wa, hwa⟩ : ∃ wa, wa = w.alloc (.cells #[.int .i64 e.op, .string e.name, .slice aw nw cw, .int .i64 e.lo, .int .i64 e.hi, .slice aa na ca] 45) := ⟨_, rfl⟩
 have hxa : Ext w wa := by rw [hwa]; exact (Ext.refl _).alloc _
 have hb1 : wa.heap[w.heap.size]? = some (.cells #[.int .i64 e.op, .string e.name, .slice aw nw cw, .int .i64 e.lo, .int .i64 e.hi, .slice aa na ca] 45 (0, 0)) := by rw [hwa]; exact alloc_new w _
 have HXA := hI hxa
 have HB1 := hI hb1
 clear hxa
 go_enter Tryz.func146, Tryz.ntmps146
 go_upto_region 1 with fail
 rw [<- hwa]
 clear hwa
 obtain ⟨f0, f1, f2, f3, f4, f5, ff⟩ := blk6 hb1
 clear hb1
 have HD := hI (fun (W : World) (hW : Ext wa W) => definitions_calls l a n c W (HL.out.ext (HXA.out.trans hW)) (by omega) fun x hx => (HSZ.out x hx).1)
 refine wp_region_grow (m := 5) [4] (GrG wa) GrE (GrP (expd1R l e aw nw cw aa na ca a n c)) (by kernel_rfl) (by kernel_rfl) ((Ext.refl wa).drew) ?_ ?_ ?_
 ·intro i k v W W' hi hk hne hout h hE
  have hE : Ext W W' := hE
  have hi' := ltc5 hi
  clear hi hk hne hout
  rcases hi' with rfl | rfl | rfl | rfl | rfl
  ·exact h
  ·obtain ⟨bd, e0, h⟩ := h
   exact ⟨bd, e0, h.ext hE⟩
  ·exact h
  ·obtain ⟨us, ua, un, uc, e0, h⟩ := h
   exact ⟨us, ua, un, uc, e0, ⟨h.1.ext hE, h.2⟩⟩
  obtain ⟨us, ua, un, uc, e0, h⟩ := h
  exact ⟨us, ua, un, uc, e0, ⟨h.1.ext hE, h.2⟩⟩
 ·intro q op hq ho vs W hW hd ρ hρ
  have hq' := ltc5 hq
  clear hq
  have o0 : ρ (.tmp 0) = .slice a n c := hρ.out 0 rfl
  have i0 := hρ.i 0 8
  have o3 : ρ (.tmp 3) = .pointer (some ⟨w.heap.size, 0, none⟩) := hρ.out 3 rfl
  have i1 := hρ.i 1 9
  have i2 := hρ.i 2 10
  have i3 := hρ.i 3 11
  have hc := hρ.const
  have hfn := hρ.func
  clear hρ
  have HW := hI (show Ext wa W from hW)
  rcases hq' with rfl | rfl | rfl | rfl | rfl
  ·cases ho
   clear hd
   unfold GivesOp
   go_simp
   exact ⟨Ext.refl W, rfl⟩
  ·cases ho
   have h0 : vs 0 = _ := hd ⟨0, .data⟩ (by simp) rfl
   rw [h0] at i0
   clear hd
   unfold GivesOp
   go_simp
   refine (HD.out W HW.out).mono ?_
   rintro r w5 ⟨bd, rfl, hd5, hx5⟩
   exact ⟨_, rfl, hx5, HW.out.trans hx5, _, rfl, hd5⟩
  ·cases ho
   clear hd
   have g0 := HW.out.cell f0
   have g1 := HW.out.cell f1
   have g2 := HW.out.cell f2
   have g3 := HW.out.cell f3
   have g4 := HW.out.cell f4
   have g5 := HW.out.cell f5
   unfold GivesOp
   go_simp
   exact ⟨Ext.refl W, rfl⟩
  ·cases ho
   obtain ⟨bd, h1, hs1⟩ : ∃ bd, vs 1 = .map (some bd) /\ DefsAt W l bd n := hd ⟨1, .data⟩ (by simp) rfl
   have HS1 := hI hs1
   clear hs1
   rw [h1] at i1
   have h2 : vs 2 = _ := hd ⟨2, .data⟩ (by simp) rfl
   rw [h2] at i2
   clear hd
   unfold GivesOp
   go_simp
   refine (HR.out _ n W HS1.out (HXA.out.trans HW.out)).mono ?_
   rintro r w5 ⟨us, ua, un, uc, rfl, hc5, hu5, hx5⟩
   exact ⟨_, rfl, hx5, HW.out.trans hx5, _, _, _, _, rfl, hc5, hu5⟩
  cases ho
  obtain ⟨us, ua, un, uc, h3, hs3⟩ : ∃ us ua un uc, vs 3 = .slice ua un uc /\ (IsClas W us ua un uc /\ Used l e us) := hd ⟨3, .data⟩ (by simp) rfl
  have HS3 := hI hs3
  clear hs3
  rw [h3] at i3
  clear hd
  unfold GivesOp
  go_simp
  exact ⟨Ext.refl W, _, _, _, _, rfl, HS3.out⟩
 intro vs W hW hR
 rw [if_pos (by decide +kernel)]
 obtain ⟨us, ua, un, uc, h4, hs4⟩ : ∃ us ua un uc, vs 4 = .slice ua un uc /\ (IsClas W us ua un uc /\ Used l e us) := hR 4 (by simp) (by omega)
 have HS4 := hI hs4
 clear hs4
 simp only [acts, dstAt, List.range, List.range.loop, List.foldl_cons, List.foldl_nil, h4]
 go_simp
 have hW2 : Ext wa W := hW
 clear hR hW h4
 obtain ⟨w2, hw2⟩ : ∃ w2, w2 = W := ⟨_, rfl⟩
 rw [<- hw2] at hW2 HS4 ⊢
 have hle : us.length <= 1000 := by have := HS4.out.2.len; have := HLN.out; omega
 have HX2 := hI (HXA.out.trans hW2)
 have HB2 := hI (hW2.blk HB1.out)
 clear hw2 hW2 f0 f1 f2 f3 f4 f5 ff
 have HUS := hI (HS4.out.2)
 have HCL := hI (HS4.out.1)
 have HUN := hI HS4.out.1.len
 have HUZ := hI (show ∀ x ∈ us, x.name.size <= 1000000000000000 /\ x.cond.size <= 100000 /\ x.cond.fits /\ bareE x.cond = true by
  intro x hx
  obtain ⟨_, d, h1, h2, _⟩ := HUS.out.defs x hx
  have hd := defAt_lt h1
  have := HSZ.out _ (List.getElem_mem hd)
  rw [h2, getD_cla hd]
  refine ⟨?_, this.2⟩
  rw [<- (defAt_name h1).1, getD_cla hd]
  exact this.1)
 clear HS4
 go_wp2_with fail
 refine (order_calls (us.map Cla.cl) ua un uc w2 HCL.out.cls (by have := HLN.out; have := HUN.out; omega) (by
  intro x hx
  obtain ⟨c', hc', rfl⟩ := List.mem_map.1 hx
  have := HUZ.out c' hc'
  exact ⟨this.2.1, this.2.2.1, this.1⟩)).mono ?_
 rw [show (us.map Cla.cl).map Cl.dfn = us.map Cla.dfn by rw [List.map_map]; rfl]
 rintro r w3 ⟨hx3, ⟨o, oa, oc, ht, rfl, hoi⟩ | ⟨o, h1, h2, rfl⟩⟩
 ·have HT := hI ht
  have HOI := hI hoi
  have HX3 := hI (HX2.out.trans hx3)
  obtain ⟨f0, f1, f2, f3, f4, f5, ff⟩ := blk6 (hx3.blk HB2.out)
  have HCL3 := hI (HCL.out.ext hx3)
  have hol : o.length <= 1000 := by have h1 := ht.len; simp at h1; omega
  clear ht hoi hx3
  go_upto_region 5 with fail
  have HSI := hI (fun (W : World) (hW : Ext w3 W) => sizes_calls us ua un uc o oa oc W (HCL3.out.ext hW) (by have := HLN.out; have := HUN.out; omega) (HOI.out.mono hW.sub) (by omega) (fun i hi => by have := HT.out.lt hi; simpa using this) (fun x hx => ⟨(HUZ.out x hx).1, Nat.le_trans (HUZ.out x hx).2.1 (by omega), (HUZ.out x hx).2.2.1⟩))
  have HCE := hI (fun (bd : Nat) (W : World) (hW : Ext w3 W) (hm : MapAt W 9 bd o.length (strF (natF (sizesF us o)))) => cexp_calls (sizesF us o) (sizesF_le us o) bd o.length 1000000000000000 e _ W (by have := HES.out.1; omega) (by omega) HES.out.2.1 hm (HE.out.ext (HX3.out.trans hW)))
  obtain ⟨R, hR⟩ : ∃ R, R = szE (sizesF us o) e := ⟨_, rfl⟩
  have HRR := hI (hR.trans (HUS.out.good HT.out (fun c hc => (HUZ.out c hc).2.2.2) HES.out.2.2))
  rw [<- hR] at HCE
  clear hR
  unfold exV at HCE
  refine wp_region_grow (m := 6) [5] (GrG w3) GrE (GrP (expd5R l e aw nw cw aa na ca a n c us ua un uc oa oc o R)) (by kernel_rfl) (by kernel_rfl) ((Ext.refl w3).drew) ?_ ?_ ?_
  ·intro i k v W W' hi hk hne hout h hE
   have hE : Ext W W' := hE
   have hi' := ltc6 hi
   clear hi hk hne hout
   rcases hi' with rfl | rfl | rfl | rfl | rfl | rfl
   ·exact h
   ·exact h
   ·obtain ⟨bd, e0, h⟩ := h
    exact ⟨bd, e0, h.ext hE⟩
   ·exact h
   ·exact h
   exact h
  ·intro q op hq ho vs W hW hd ρ hρ
   have hq' := ltc6 hq
   clear hq
   have o5 : ρ (.tmp 5) = .slice ua un uc := hρ.out 5 rfl
   have o6 : ρ (.tmp 6) = .slice oa o.length oc := hρ.out 6 rfl
   have i0 := hρ.i 0 19
   have i1 := hρ.i 1 20
   have o3 : ρ (.tmp 3) = .pointer (some ⟨w.heap.size, 0, none⟩) := hρ.out 3 rfl
   have i2 := hρ.i 2 21
   have i3 := hρ.i 3 22
   have i4 := hρ.i 4 23
   have hc := hρ.const
   have hfn := hρ.func
   clear hρ
   have HW := hI (show Ext w3 W from hW)
   rcases hq' with rfl | rfl | rfl | rfl | rfl | rfl
   ·cases ho
    clear hd
    unfold GivesOp
    go_simp
    exact ⟨Ext.refl W, rfl⟩
   ·cases ho
    clear hd
    unfold GivesOp
    go_simp
    exact ⟨Ext.refl W, rfl⟩
   ·cases ho
    have h0 : vs 0 = _ := hd ⟨0, .data⟩ (by simp) rfl
    rw [h0] at i0
    have h1 : vs 1 = _ := hd ⟨1, .data⟩ (by simp) rfl
    rw [h1] at i1
    clear hd
    unfold GivesOp
    go_simp
    refine (HSI.out W HW.out).mono ?_
    rintro r w5 ⟨bd, rfl, hd5, hx5⟩
    exact ⟨_, rfl, hx5, HW.out.trans hx5, _, rfl, hd5⟩
   ·cases ho
    clear hd
    have g0 := HW.out.cell f0
    have g1 := HW.out.cell f1
    have g2 := HW.out.cell f2
    have g3 := HW.out.cell f3
    have g4 := HW.out.cell f4
    have g5 := HW.out.cell f5
    unfold GivesOp
    go_simp
    exact ⟨Ext.refl W, rfl⟩
   ·cases ho
    obtain ⟨bd, h2, hs2⟩ : ∃ bd, vs 2 = .map (some bd) /\ MapAt W 9 bd o.length (strF (natF (sizesF us o))) := hd ⟨2, .data⟩ (by simp) rfl
    have HS2 := hI hs2
    clear hs2
    rw [h2] at i2
    have h3 : vs 3 = _ := hd ⟨3, .data⟩ (by simp) rfl
    rw [h3] at i3
    clear hd
    unfold GivesOp
    go_simp
    refine (HCE.out _ W HW.out HS2.out).mono ?_
    rintro r w5 ⟨rfl, hx5⟩
    exact ⟨_, rfl, hx5, HW.out.trans hx5, rfl⟩
   cases ho
   have h4 : vs 4 = _ := hd ⟨4, .data⟩ (by simp) rfl
   rw [h4] at i4
   clear hd
   unfold GivesOp
   go_simp
   exact ⟨Ext.refl W, rfl⟩
  intro vs W hW hR
  rw [if_pos (by decide +kernel)]
  have h5 : vs 5 = .int .i64 R := hR 5 (by simp) (by omega)
  simp only [acts, dstAt, List.range, List.range.loop, List.foldl_cons, List.foldl_nil, h5]
  go_simp
  have hW2 : Ext w3 W := hW
  clear hR hW h5
  go_wp2_with fail
  go_ret
  exact givesE_of (by rw [HRR.out]) (HX3.out.trans hW2)
 have HX3 := hI (HX2.out.trans hx3)
 have HRR := hI (HUS.out.cyclic h1 h2)
 clear hx3 h1 h2
 go_wp2_with fail
 go_ret
 exact givesE_of (by rw [HRR.out]; rfl) HX3.out
mutual
theorem okTree_bare : (e : Ex) -> okTree e -> bareE e = true
 | .mk op name words lo hi args, h => by
  rw [okTree] at h
  obtain ⟨hn, ha⟩ := h
  rw [bareE, okTrees_bare args ha, Bool.and_true]
  unfold okNode at hn
  simp only [Ex.op, Ex.args, Ex.name, Ex.words, Ex.lo, Ex.hi] at hn
  by_cases h3 : op = 3
  ·have : args = [] := by
    rcases hn with ⟨h, -⟩ | ⟨h, -⟩ | ⟨-, -, -, -, -, h⟩ | ⟨h, -⟩ | ⟨h, -⟩ | ⟨h, -⟩ | ⟨h, -⟩
    ·omega
    ·omega
    ·exact h
    ·omega
    ·omega
    ·omega
    omega
   simp [this]
  simp [h3]
theorem okTrees_bare : (l : List Ex) -> okTrees l -> bareL l = true
 | [], _ => by rw [bareL]
 | e :: r, h => by
  rw [okTrees] at h
  rw [bareL, okTree_bare e h.1, okTrees_bare r h.2]; rfl
end
theorem ref_bare {e : Ex} (h : refExprB e = true) : bareE e = true := okTree_bare e (ref_okTree h)
theorem claLarge_conds {l : List Cla} {i : Nat} (hi : i < l.length) : claLarge l i = if (condsC l[i]).any (fun x => decide (2000 < expanded l x)) = true then 4 else 0 := by
 unfold claLarge
 rw [getD_cla hi, backsLarge_conds]
 simp only [condsC, List.any_cons, Bool.or_eq_true, decide_eq_true_eq]
theorem defs_own {s : List Attr} {l : List Cla} (h : ∀ j, j < l.length -> claErr s l j = 0) {i : Nat} (hi : i < l.length) (hk : l[i].kind = 1) : defAt l l[i].name = some i := by
 have h0 := h i hi
 rw [<- ccErr_eq s l hi] at h0
 unfold ccErr at h0
 have hnone : findAt (l.take i) l[i].name = none := by
  cases hf : findAt (l.take i) l[i].name with
  | none => rfl
  | some q =>
   rw [hf] at h0
   split at h0
   ·cases h0
   simp at h0
 unfold defAt
 rw [List.findIdx?_eq_some_iff_getElem]
 refine ⟨hi, by simp [hk], fun j hj => ?_⟩
 unfold findAt at hnone
 rw [List.findIdx?_eq_none_iff] at hnone
 have := hnone l[j] (List.mem_iff_getElem.2 ⟨j, by simp; omega, by simp⟩)
 simp only [decide_eq_false_iff_not] at this
 simp [this]
def cclas10R (sa : OA) (sn sc bm b off n c k : Nat) (v : ClV) (E : Int) : Nat -> Value -> World -> Prop
 | 0, u, _ => u = .agg #[.slice sa sn sc]
 | 1, u, _ => u = .map (some bm)
 | 2, u, _ => u = .slice (some ⟨b, off, none⟩) n c
 | 3, u, _ => u = .int .i64 ((k : Nat) : Int)
 | 4, u, _ => u = .slice (some ⟨b, off, none⟩) k c
 | 5, u, _ => u = .agg #[.int .i64 v.kind, .string v.name, .int .i64 v.x.op, .string v.x.name, .slice v.x.aw v.x.nw v.x.cw, .int .i64 v.x.lo, .int .i64 v.x.hi, .slice v.x.aa v.x.na v.x.ca, .slice v.au v.nu v.cu, .int .i64 v.amount]
 | 6, u, _ => u = .int .i64 E
 | _, u, _ => u = .int .i64 E
def CcL2 (l : List Cla) (n : Nat) (w3 : World) (t : Value) (wr : World) : Prop := ∃ k : Nat, t = .int .i64 ((k : Nat) : Int) /\ k <= n /\ (∀ j, j < k -> claLarge l j = 0) /\ Ext w3 wr
theorem cClauses_calls (s : List Attr) (l : List Cla) (sv : Value) (a : OA) (n c : Nat) (w : World) (hs : IsSchema w s sv) (hf : ∀ x ∈ s, x.fits) (hsl : s.length <= 1000000000000000) (hl : IsClas w l a n c) (hn : n <= 1000000000000000) (hok : ∀ x ∈ l, x.fit) (ho : HasOps w) :
  Calls Tryz.prog 56 #[sv, .slice a n c] w (GivesE (clsV (clausesErr s l)) w) := by
 obtain ⟨sa, sn, sc, rfl, hsn⟩ := hs.slice
 have HL := hI hl
 have HN := hI hl.len
 have HOK := hI hok
 have hnc : n <= c := by obtain ⟨vs, h1, _⟩ := hl; exact h1.2.1
 have HVA := hI (fun (W : World) (hW : Ext w W) => sValidate_calls s (.agg #[.slice sa sn sc]) W (hs.ext hW) hf hsl)
 have HCC := hI (fun (hz : schemaErr s = 0) (bm nm : Nat) (ba : OA) (bn bc i : Nat) (hi : i < l.length) (v : ClV) (W : World) (hW : Ext w W) (hd : DefsAt W l bm nm) (hb : IsClas W (l.take i) ba bn bc) (hbn : bn <= 1000000000000000) (hc : IsCla W l[i] v) => cclause_calls s hz l (l.take i) hf hsl bm nm ba bn bc l[i] v (.agg #[.slice sa sn sc]) W (hok _ (List.getElem_mem hi)) (ho.ext hW) (hs.ext hW) hd hb hbn hc)
 obtain ⟨R, hR⟩ : ∃ R, R = clausesErr s l := ⟨_, rfl⟩
 rw [<- hR]
 have HR := hI hR
 obtain ⟨wa, hwa⟩ : ∃ wa, wa = w.alloc (.cells #[.slice sa sn sc] 24) := ⟨_, rfl⟩
 have hxa : Ext w wa := by rw [hwa]; exact (Ext.refl _).alloc _
 have hb : wa.heap[w.heap.size]? = some (.cells #[.slice sa sn sc] 24 (0, 0)) := by rw [hwa]; exact alloc_new w _
 have HXA := hI hxa
 have HBA := hI hb
 obtain ⟨d0, df⟩ := blk1 hb
 have hlta := blk_lt hb
 clear hs hl hf hok hR hsn hxa hb ho
 go_enter Tryz.func56, Tryz.ntmps56
 go_upto_region 1 with fail
 rw [<- hwa]
 clear hwa
 go_wp2_with fail
 refine (HVA.out wa HXA.out).mono ?_
 rintro r w1 ⟨rfl, hx1⟩
 have HX1 := hI (HXA.out.trans hx1)
 have HB1 := hI (hx1.blk HBA.out)
 clear hx1 d0 df HVA hlta
 by_cases hse : schemaErr s = 0
 case neg =>
  have tz : (schemaErr s != 0) = true := by simp [hse]
  have HQ := hI (HR.out.trans (cls_bad hse))
  go_wp2_with fail
  go_ret2
  exact givesE_cls HQ.out HX1.out
 have tz : (schemaErr s != 0) = false := by simp [hse]
 have HSE := hI hse
 clear hse
 by_cases hm : 100 < n
 ·have tm : decide ((100 : Int) < (n : Int)) = true := decide_eq_true (by omega)
  have HQ := hI (HR.out.trans (cls_many HSE.out (by have := HN.out; omega)))
  go_wp2_with fail
  go_ret2
  exact givesE_cls HQ.out HX1.out
 have tm : decide ((100 : Int) < (n : Int)) = false := decide_eq_false (by omega)
 have HM := hI (show ¬ 100 < l.length by have := HN.out; omega)
 go_wp2_with fail
 refine (definitions_calls l a n c w1 (HL.out.ext HX1.out) (by omega) fun x hx => (HOK.out x hx).1).mono ?_
 rintro r w2 ⟨bm, rfl, hd2, hx2⟩
 have HD2 := hI hd2
 have HX2 := hI (HX1.out.trans hx2)
 have HB2 := hI (hx2.blk HB1.out)
 clear hd2 hx2
 go_wp2_with fail
 go_loopw [30] (fun t wr => ∃ k : Nat, t = .int .i64 ((k : Nat) : Int) /\ k <= n /\ (∀ j, j < k -> claErr s l j = 0) /\ Ext w2 wr) (fun t _ => n - (intOf t).toNat)
 case atStart => exact ⟨0, rfl, by omega, fun j h => by omega, Ext.refl _⟩
 case round =>
  obtain ⟨k, rfl, hk, hno, hxr⟩ := hrel
  have HNO := hI hno
  have HXR := hI hxr
  clear hno hxr
  by_cases hkn : k < n
  ·have hkl : k < l.length := by have := HN.out; omega
   have t1 : decide ((k : Int) < (n : Int)) = true := decide_eq_true (by omega)
   obtain ⟨b, off, v, rfl, hcla, hrow⟩ := (HL.out.ext (HX2.out.trans HXR.out)).at hkl
   obtain ⟨c0, c1, c2, c3, c4, c5, c6, c7, c8, c9⟩ := hrow.ten
   have ti0 : (0 : Int) <= (k : Int) := by omega
   have ti1 : (k : Int) <= (n : Int) := by omega
   have hkc : k <= c := by omega
   have HCE := hI (ccErr_eq s l hkl)
   have HHIT := hI (fun (e : Int) (h : claErr s l k = e) (h0 : e ≠ 0) => HR.out.trans (by rw [cls_hit HSE.out HM.out hkl HNO.out (by rw [h]; exact h0), h]))
   obtain ⟨y, hy⟩ : ∃ y, y = wr.heap.size := ⟨_, rfl⟩
   obtain ⟨wx, hwx⟩ : ∃ wx, wx = wr.alloc (.cells #[.int .i64 v.kind, .string v.name, .int .i64 v.x.op, .string v.x.name, .slice v.x.aw v.x.nw v.x.cw, .int .i64 v.x.lo, .int .i64 v.x.hi, .slice v.x.aa v.x.na v.x.ca, .slice v.au v.nu v.cu, .int .i64 v.amount] 48) := ⟨_, rfl⟩
   have hxx : Ext wr wx := by rw [hwx]; exact (Ext.refl _).alloc _
   have hby : wx.heap[y]? = some (.cells #[.int .i64 v.kind, .string v.name, .int .i64 v.x.op, .string v.x.name, .slice v.x.aw v.x.nw v.x.cw, .int .i64 v.x.lo, .int .i64 v.x.hi, .slice v.x.aa v.x.na v.x.ca, .slice v.au v.nu v.cu, .int .i64 v.amount] 48 (0, 0)) := by rw [hwx, hy]; exact alloc_new wr _
   have HXX := hI (HXR.out.trans hxx)
   have HCF := hI (fun (W : World) (hW : Ext wx W) => HCC.out HSE.out bm n (some ⟨b, off, none⟩) k c k hkl v W ((HX2.out.trans HXX.out).trans hW) (HD2.out.ext (HXX.out.trans hW)) ((HL.out.ext ((HX2.out.trans HXX.out).trans hW)).take (by omega)) (by omega) (hcla.mono (hxx.trans hW).sub))
   rw [HCE.out] at HCF
   obtain ⟨E, hE⟩ : ∃ E, E = claErr s l k := ⟨_, rfl⟩
   rw [<- hE] at HCF
   have HE := hI hE
   clear hcla hrow hE HCE
   go_upto_region 10 with fail
   rw [<- hwx, <- hy]
   clear hwx hy c0 c1 c2 c3 c4 c5 c6 c7 c8 c9
   obtain ⟨d0, df⟩ := blk1 ((HXX.out).blk HB2.out)
   obtain ⟨b0, b1, b2, b3, b4, b5, b6, b7, b8, b9, bf⟩ := blk10r hby
   clear hxx hby
   refine wp_region_grow (m := 8) [7] (GrG wx) GrE (GrP (cclas10R sa sn sc bm b off n c k v E)) (by kernel_rfl) (by kernel_rfl) ((Ext.refl wx).drew) ?_ ?_ ?_
   ·intro i k v W W' hi hk hne hout h hE
    have hE : Ext W W' := hE
    have hi' := ltc8 hi
    clear hi hk hne hout
    rcases hi' with rfl | rfl | rfl | rfl | rfl | rfl | rfl | rfl
    ·exact h
    ·exact h
    ·exact h
    ·exact h
    ·exact h
    ·exact h
    ·exact h
    exact h
   ·intro q op hq ho vs W hW hd ρ hρ
    have hq' := ltc8 hq
    clear hq
    have o2 : ρ (.tmp 2) = .pointer (some ⟨w.heap.size, 0, none⟩) := hρ.out 2 rfl
    have o7 : ρ (.tmp 7) = .map (some bm) := hρ.out 7 rfl
    have o1 : ρ (.tmp 1) = .slice (some ⟨b, off, none⟩) n c := hρ.out 1 rfl
    have o8 : ρ (.tmp 8) = .int .i64 ((k : Nat) : Int) := hρ.out 8 rfl
    have i2 := hρ.i 2 37
    have i3 := hρ.i 3 38
    have o9 : ρ (.tmp 9) = .pointer (some ⟨y, 0, none⟩) := hρ.out 9 rfl
    have i0 := hρ.i 0 35
    have i1 := hρ.i 1 36
    have i4 := hρ.i 4 39
    have i5 := hρ.i 5 40
    have i6 := hρ.i 6 41
    have hc := hρ.const
    have hfn := hρ.func
    clear hρ
    have HW := hI (show Ext wx W from hW)
    rcases hq' with rfl | rfl | rfl | rfl | rfl | rfl | rfl | rfl
    ·cases ho
     clear hd
     have g0 := HW.out.cell d0
     unfold GivesOp
     go_simp
     exact ⟨Ext.refl W, rfl⟩
    ·cases ho
     clear hd
     unfold GivesOp
     go_simp
     exact ⟨Ext.refl W, rfl⟩
    ·cases ho
     clear hd
     unfold GivesOp
     go_simp
     exact ⟨Ext.refl W, rfl⟩
    ·cases ho
     clear hd
     unfold GivesOp
     go_simp
     exact ⟨Ext.refl W, rfl⟩
    ·cases ho
     have h2 : vs 2 = _ := hd ⟨2, .data⟩ (by simp) rfl
     rw [h2] at i2
     have h3 : vs 3 = _ := hd ⟨3, .data⟩ (by simp) rfl
     rw [h3] at i3
     clear hd
     unfold GivesOp
     go_simp
     exact ⟨Ext.refl W, rfl⟩
    ·cases ho
     clear hd
     have g0 := HW.out.cell b0
     have g1 := HW.out.cell b1
     have g2 := HW.out.cell b2
     have g3 := HW.out.cell b3
     have g4 := HW.out.cell b4
     have g5 := HW.out.cell b5
     have g6 := HW.out.cell b6
     have g7 := HW.out.cell b7
     have g8 := HW.out.cell b8
     have g9 := HW.out.cell b9
     unfold GivesOp
     go_simp
     exact ⟨Ext.refl W, rfl⟩
    ·cases ho
     have h0 : vs 0 = _ := hd ⟨0, .data⟩ (by simp) rfl
     rw [h0] at i0
     have h1 : vs 1 = _ := hd ⟨1, .data⟩ (by simp) rfl
     rw [h1] at i1
     have h4 : vs 4 = _ := hd ⟨4, .data⟩ (by simp) rfl
     rw [h4] at i4
     have h5 : vs 5 = _ := hd ⟨5, .data⟩ (by simp) rfl
     rw [h5] at i5
     clear hd
     unfold GivesOp
     go_simp
     refine (HCF.out W HW.out).mono ?_
     rintro r5 w5 ⟨rfl, hx5⟩
     exact ⟨_, rfl, hx5, HW.out.trans hx5, rfl⟩
    cases ho
    have h6 : vs 6 = _ := hd ⟨6, .data⟩ (by simp) rfl
    rw [h6] at i6
    clear hd
    unfold GivesOp
    go_simp
    exact ⟨Ext.refl W, rfl⟩
   intro vs W hW hR
   rw [if_pos (by decide +kernel)]
   have h7 : vs 7 = .int .i64 E := hR 7 (by simp) (by omega)
   simp only [acts, dstAt, List.range, List.range.loop, List.foldl_cons, List.foldl_nil, h7]
   go_simp
   have hW2 : Ext wx W := hW
   clear hR hW h7
   have HX10 := hI (HXX.out.trans hW2)
   clear hW2 d0 df b0 b1 b2 b3 b4 b5 b6 b7 b8 b9 bf HCF
   by_cases hz : E = 0
   ·have tz0 : (E != 0) = false := by simp [hz]
    have HZ := hI (HE.out.symm.trans hz)
    clear hz
    go_wp2_with fail
    go_roundw
    case rel =>
     refine ⟨k + 1, by go_num, by omega, fun j hj => ?_, HX10.out⟩
     by_cases e0 : j = k
     ·subst e0; exact HZ.out
     exact HNO.out j (by omega)
    case measure => simp [intOf]; omega
   have tz0 : (E != 0) = true := by simp [hz]
   have HQ := hI (HHIT.out E HE.out.symm hz)
   clear hz
   go_wp2_with fail
   go_ret2
   exact givesE_cls HQ.out (HX2.out.trans HX10.out)
  have t1 : decide ((k : Int) < (n : Int)) = false := decide_eq_false (by omega)
  have HNA := hI (show ∀ j, j < l.length -> claErr s l j = 0 from fun j hj => HNO.out j (by have := HN.out; omega))
  have HSZ := hI (show ∀ x ∈ l, x.name.size <= 1000000000000000 /\ x.cond.size <= 100000 /\ x.cond.fits /\ (∀ y ∈ condsC x, refExprB y = true) /\ wbN x.unl <= 40 by
   intro x hx
   obtain ⟨j, hj, rfl⟩ := List.mem_iff_getElem.1 hx
   have hv := claErr_valid (HNA.out j hj) hj
   have hf := HOK.out _ hx
   exact ⟨hf.1, refExprB_size (clauseB_cond hv), hf.2.1, (clause_refs hv).1, (clause_refs hv).2⟩)
  have HXW := hI (HX2.out.trans HXR.out)
  clear HNO
  go_wp2_with fail
  refine (order_calls (l.map Cla.cl) a n c wr (HL.out.ext HXW.out).cls (by omega) (by
   intro x hx
   obtain ⟨c', hc', rfl⟩ := List.mem_map.1 hx
   have := HSZ.out c' hc'
   exact ⟨this.2.1, this.2.2.1, this.1⟩)).mono ?_
  rw [show (l.map Cla.cl).map Cl.dfn = l.map Cla.dfn by rw [List.map_map]; rfl]
  rintro r w3 ⟨hx3, ⟨o, oa, oc, ht, rfl, hoi⟩ | ⟨o, q1, q2, rfl⟩⟩
  ·have HT := hI ht
   have HOI := hI hoi
   have HX3 := hI (HXW.out.trans hx3)
   have HSO := hI (show Sorts (l.map Cla.dfn) from ⟨o, ht⟩)
   have hol : o.length <= 1000 := by have h1 := ht.len; have := HN.out; simp at h1; omega
   have HSE2 := hI (fun (x : Ex) (hx : bareE x = true) => sizes_exp ht (fun i hi => by
    have hil : i < l.length := by simpa using ht.lt hi
    rw [getD_cla hil]
    exact defs_own HNA.out hil (by have := (ht.all i).1 hi; rw [isDef_dfn hil] at this; simpa using this)) (fun i hi => by
    have hil : i < l.length := by simpa using ht.lt hi
    rw [getD_cla hil]
    exact ref_bare ((HSZ.out _ (List.getElem_mem hil)).2.2.2.1 _ (by simp [condsC]))) x hx)
   clear ht hoi hx3
   go_wp2_with fail
   refine (sizes_calls l a n c o oa oc w3 (HL.out.ext HX3.out) (by omega) HOI.out (by omega) (fun i hi => by simpa using HT.out.lt hi) (fun x hx => by have := HSZ.out x hx; exact ⟨this.1, by omega, this.2.2.1⟩)).mono ?_
   rintro r w4 ⟨bs, rfl, hm4, hx4⟩
   have HM4 := hI hm4
   have HX4 := hI (HX3.out.trans hx4)
   clear hm4 hx4
   go_wp2_with fail
   go_loopw [60] (CcL2 l n w4) (fun t _ => n - (intOf t).toNat)
   case atStart => exact ⟨0, rfl, by omega, fun j h => by omega, Ext.refl _⟩
   case round =>
    obtain ⟨k2, rfl, hk2, hno, hxr⟩ := hrel
    obtain ⟨wo, rfl⟩ : ∃ wo : World, wo = wr := ⟨_, rfl⟩
    have HNO := hI hno
    have HXR2 := hI hxr
    clear hno hxr
    by_cases hkn2 : k2 < n
    ·have hkl : k2 < l.length := by have := HN.out; omega
     have t2 : decide ((k2 : Int) < (n : Int)) = true := decide_eq_true (by omega)
     obtain ⟨b, off, v, rfl, hcla, hrow⟩ := (HL.out.ext (HX4.out.trans HXR2.out)).at hkl
     obtain ⟨c0, c1, c2, c3, c4, c5, c6, c7, c8, c9⟩ := hrow.ten
     have HFT := hI (condsC_fit (HOK.out _ (List.getElem_mem hkl)))
     have HRF := hI (HSZ.out _ (List.getElem_mem hkl)).2.2.2.1
     have hwb := (HSZ.out _ (List.getElem_mem hkl)).2.2.2.2
     have HLG := hI (claLarge_conds hkl)
     have HHIT := hI (fun (h : claLarge l k2 = 4) => HR.out.trans (cls_large HSE.out HM.out HNA.out HSO.out hkl HNO.out h))
     have HCN := hI (fun (W : World) (hW : Ext wo W) => conditions_calls l[k2] v W (hcla.mono hW.sub) (by omega))
     have HCL := hI (condsC_len l[k2])
     clear hcla hrow
     go_wp2_with fail
     refine (HCN.out _ ((Ext.refl wo).alloc _)).mono ?_
     rintro r w6 ⟨ea, en, ek, rfl, hen, henk, hed, hx6⟩
     have HX6 := hI ((HXR2.out.alloc _).trans hx6)
     have HED := hI hed
     have HEN := hI hen
     have hen2 : en <= 41 := by have := HCL.out; omega
     clear hx6 hed hen c0 c1 c2 c3 c4 c5 c6 c7 c8 c9 HCN
     go_wp2_with fail
     go_loopw [68] (fun t wr => ∃ q : Nat, t = .int .i64 ((q : Nat) : Int) /\ q <= en /\ (∀ j (h : j < (condsC l[k2]).length), j < q -> ¬ 2000 < expanded l (condsC l[k2])[j]) /\ Ext w6 wr) (fun t _ => en - (intOf t).toNat)
     case atStart => exact ⟨0, rfl, by omega, fun j _ h => by omega, Ext.refl _⟩
     case round =>
      obtain ⟨q, rfl, hq, hall, hxq⟩ := hrel
      have HALL := hI hall
      have HXQ := hI hxq
      clear hall hxq
      by_cases hqn : q < en
      ·have hql : q < (condsC l[k2]).length := by have := HEN.out; omega
       have t3 : decide ((q : Int) < (en : Int)) = true := decide_eq_true (by omega)
       obtain ⟨b', off', rfl, aw1, nw1, cw1, aa1, na1, ca1, h0, h1, h2, h3, h4, h5, h6⟩ := ExsD.at (condsC l[k2]) _ (ExsD.ext HXQ.out (condsC l[k2]) _ HED.out) q hql
       have hmem := List.getElem_mem hql
       have hxs := refExprB_size (HRF.out _ hmem)
       have HCX := hI (fun (W : World) (hW : Ext wr W) => cexp_calls (sizesF l o) (sizesF_le l o) bs o.length 1000000000000000 (condsC l[k2])[q] _ W (by omega) (by omega) (HFT.out _ hmem).1 (HM4.out.ext ((HX6.out.trans HXQ.out).trans hW)) (h6.ext hW))
       have hblt := block_lt h0
       simp only at hblt
       rw [HSE2.out _ (ref_bare (HRF.out _ hmem))] at HCX
       unfold exV at HCX
       obtain ⟨E, hE⟩ : ∃ E, E = expanded l (condsC l[k2])[q] := ⟨_, rfl⟩
       rw [<- hE] at HCX
       have hel : E <= 2001 := by rw [hE]; exact expF_le l _ _
       have HE := hI hE
       clear h6 hE
       go_wp2_with fail
       refine (HCX.out _ ((Ext.refl wr).alloc _)).mono ?_
       rintro r w7 ⟨rfl, hx7⟩
       have HX7 := hI ((HXQ.out.alloc _).trans hx7)
       clear hx7 h0 h1 h2 h3 h4 h5 HCX
       by_cases hlg : 2000 < E
       ·have t4 : decide ((2000 : Int) < (E : Int)) = true := decide_eq_true (by omega)
        have HQ := hI (HHIT.out (by
         rw [HLG.out, if_pos]
         rw [List.any_eq_true]
         exact ⟨_, hmem, by rw [<- HE.out]; simpa using hlg⟩))
        clear hmem
        go_wp2_with fail
        go_ret2
        exact givesE_cls HQ.out (HX4.out.trans (HX6.out.trans HX7.out))
       have t4 : decide ((2000 : Int) < (E : Int)) = false := decide_eq_false (by omega)
       have HNL := hI (show ¬ 2000 < expanded l (condsC l[k2])[q] by rw [<- HE.out]; exact hlg)
       clear hmem hlg
       go_wp2_with fail
       go_roundw
       case rel =>
        refine ⟨q + 1, by go_num, by omega, fun j hj hjk => ?_, HX7.out⟩
        by_cases e0 : j = q
        ·subst e0; exact HNL.out
        exact HALL.out j hj (by omega)
       case measure => simp [intOf]; omega
      have t3 : decide ((q : Int) < (en : Int)) = false := decide_eq_false (by omega)
      have HZ := hI (show claLarge l k2 = 0 by
       rw [HLG.out, if_neg]
       rw [Bool.not_eq_true, List.any_eq_false]
       intro x hx
       obtain ⟨j, hj, rfl⟩ := List.mem_iff_getElem.1 hx
       simpa using HALL.out j hj (by have := HEN.out; omega))
      go_wp2_with fail
      go_roundw
      case rel =>
       refine ⟨k2 + 1, by go_num, by omega, fun j hj => ?_, HX6.out.trans HXQ.out⟩
       by_cases e0 : j = k2
       ·subst e0; exact HZ.out
       exact HNO.out j (by omega)
      case measure => simp [intOf]; omega
    have t2 : decide ((k2 : Int) < (n : Int)) = false := decide_eq_false (by omega)
    have HQ := hI (HR.out.trans (cls_good HSE.out HM.out HNA.out HSO.out fun j hj => HNO.out j (by have := HN.out; omega)))
    go_wp2_with fail
    go_ret2
    exact givesE_cls HQ.out (HX4.out.trans HXR2.out)
  have HQ := hI (HR.out.trans (cls_cycle HSE.out HM.out HNA.out (q1.none q2)))
  have HX3 := hI (HXW.out.trans hx3)
  clear hx3 q1 q2
  go_wp2_with fail
  go_ret2
  exact givesE_cls HQ.out HX3.out
def put3 (w : World) (B : Nat) (v0 v1 v2 : Value) : World := ((w.setCell ⟨B, 0, none⟩ v0).setCell ⟨B, 1, none⟩ v1).setCell ⟨B, 2, none⟩ v2
theorem put3_blk {w : World} {B : Nat} {u0 u1 u2 : Value} {t : TypeId} (h : w.heap[B]? = some (.cells #[u0, u1, u2] t (0, 0))) (v0 v1 v2 : Value) : (put3 w B v0 v1 v2).heap[B]? = some (.cells #[v0, v1, v2] t (0, 0)) := by
 unfold put3
 have h0 := heap_setCell_same w B 0 _ _ v0 h
 have h1 := heap_setCell_same _ B 1 _ _ v1 h0
 have h2 := heap_setCell_same _ B 2 _ _ v2 h1
 rw [h2]; rfl
theorem put3_chg (w : World) (B : Nat) (v0 v1 v2 : Value) {N : ZN} (h : B ∈ N) : Chg N w (put3 w B v0 v1 v2) := by
 unfold put3
 exact (((Chg.refl _ _).setCell (Or.inl h) _).setCell (Or.inl h) _).setCell (Or.inl h) _
def lossZero : Value := .agg #[.slice none 0 0, .map none, .slice none 0 0]
def CheckedQ (s : List Attr) (l : List Cla) (e : Ex) (f : ZI) (n : Nat) (w : World) (r : Ending) (w' : World) : Prop := Ext w w' /\ ((evalErr s l e f ≠ 0 /\ r = .returned (.tuple #[lossZero, .int .i64 (evalErr s l e f)])) \/ (evalErr s l e f = 0 /\ ∃ lv : LossV, r = .returned (.tuple #[lv.val, .int .i64 0]) /\ IsLoss w' s l f lv n))
theorem Chk.fresh {s : List Attr} {l : List Cla} (h : Chk s l) {k : Nat} (hk : k < l.length) : defAt (l.take k) l[k].name = none := by
 cases hd : defAt (l.take k) l[k].name with
 | none => rfl
 | some d =>
  obtain ⟨h1, _, h3⟩ := defAt_atK hd
  have hdk : d < k := by simp at h1; omega
  have := h.uniq k d hk hdk
  rw [getD_take hdk] at h3
  rw [h3, getD_clK hk] at this
  exact absurd rfl this
theorem checked_calls (s : List Attr) (l : List Cla) (e : Ex) (f : ZI) (ev sv : Value) (a : OA) (n c : Nat) (fa : OA) (fn fc : Nat) (w : World) (hs : IsSchema w s sv) (hf : ∀ x ∈ s, x.fits) (hsl : s.length <= 1000000000000000) (hl : IsClas w l a n c) (hn : n <= 1000000) (hok : ∀ x ∈ l, x.fit) (he : IsEx w e ev) (hfew : e.few) (hfit : e.fits) (hi : IsIntF w f fa fn) (hfn : fn <= 1000000000000000) (ho : HasOps w) :
  Calls Tryz.prog 115 #[sv, .slice a n c, ev, .slice fa fn fc] w (CheckedQ s l e f n w) := by
 obtain ⟨sa, sn, sc, rfl, hsn⟩ := hs.slice
 have HCL := hI (fun W (hW : Ext w W) => cClauses_calls s l _ a n c W (hs.ext hW) hf hsl (hl.ext hW) (by omega) hok (ho.ext hW))
 have HEX := hI (fun W (hW : Ext w W) => checkExpr_calls s l a n c e ev _ W hf hsl (hl.ext hW) hn (fun x hx => (hok x hx).1) hfew hfit (ho.ext hW) (hs.ext hW) (he.ext hW))
 have HXP := hI (fun (h1 : (clausesErr s l).2 = 0) (h2 : exprErr s l e = 0) W (hW : Ext w W) => cExpanded_calls l a n c e ev W (hl.ext hW) (he.ext hW) ⟨by have := ref_size (exprErr_ref h2); omega, hfit, ref_bare (exprErr_ref h2)⟩ (by rw [hl.len]; have := (chk_of h1).len; omega) (fun x hx => ⟨(hok x hx).1, by have := (chk_of h1).size x hx; omega, (hok x hx).2.1, ref_bare ((chk_of h1).good x hx).2.2.1⟩))
 have HFC := hI (fun W (hW : Ext w W) => sValid_calls s _ f fa fn fc W (hs.ext hW) hf hsl (hi.ext hW) hfn)
 have HCK := hI (fun (h1 : (clausesErr s l).2 = 0) => chk_of h1)
 have HL := hI hl
 have HS := hI hs
 have HI := hI hi
 have HSZ := hI (fun x hx => (hok x hx).1)
 have HN := hI hl.len
 obtain ⟨aw, nw, cw, aa, na, ca, rfl, -⟩ := he.parts
 obtain ⟨R, hR⟩ : ∃ R, R = evalErr s l e f := ⟨_, rfl⟩
 unfold CheckedQ
 rw [<- hR]
 unfold evalErr at hR
 obtain ⟨⟨i0, E1⟩, hE1⟩ : ∃ E : Nat × Int, E = clausesErr s l := ⟨_, rfl⟩
 rw [<- hE1] at HCL hR
 have HXP1 := hI (fun (h1 : E1 = 0) => HXP.out (by rw [<- hE1]; exact h1))
 have HCK1 := hI (fun (h1 : E1 = 0) => HCK.out (by rw [<- hE1]; exact h1))
 clear HXP HCK
 obtain ⟨E2, hE2⟩ : ∃ E, E = exprErr s l e := ⟨_, rfl⟩
 rw [<- hE2] at HEX hR
 have HXP := hI (fun (h1 : E1 = 0) (h2 : E2 = 0) => HXP1.out h1 (by rw [<- hE2]; exact h2))
 clear HXP1
 obtain ⟨X, hX⟩ : ∃ X, X = expanded l e := ⟨_, rfl⟩
 rw [<- hX] at HXP hR
 obtain ⟨B, hB⟩ : ∃ B, B = factsB s f := ⟨_, rfl⟩
 rw [<- hB] at HFC hR
 have HR := hI hR
 clear hs hf hsl hl hok he hfew hfit hi hsn hR hE1 hE2 hX hB ho
 unfold exV at *
 obtain ⟨wa, hwa⟩ : ∃ wa, wa = ((w.alloc (.cells #[.slice sa sn sc] 24)).alloc (.cells #[.int .i64 e.op, .string e.name, .slice aw nw cw, .int .i64 e.lo, .int .i64 e.hi, .slice aa na ca] 45)).alloc (.cells #[.slice none 0 0, .map none, .slice none 0 0] 183) := ⟨_, rfl⟩
 have hxa : Ext w wa := by rw [hwa]; exact (((Ext.refl _).alloc _).alloc _).alloc _
 have hb0 : wa.heap[w.heap.size]? = some (.cells #[.slice sa sn sc] 24 (0, 0)) := by rw [hwa]; exact blk_alloc (blk_alloc (alloc_new w _))
 have hb1 : wa.heap[w.heap.size + 1]? = some (.cells #[.int .i64 e.op, .string e.name, .slice aw nw cw, .int .i64 e.lo, .int .i64 e.hi, .slice aa na ca] 45 (0, 0)) := by rw [hwa]; exact blk_alloc (alloc_atR (by simp))
 have hb2 : wa.heap[w.heap.size + 1 + 1]? = some (.cells #[.slice none 0 0, .map none, .slice none 0 0] 183 (0, 0)) := by rw [hwa]; exact alloc_atR (by simp)
 have HXA := hI hxa
 have HB0 := hI hb0
 have HB1 := hI hb1
 have HB2 := hI hb2
 obtain ⟨e0, ef⟩ := blk1 hb0
 clear hxa hb0 hb1 hb2
 unfold clsV at HCL
 go_enter Tryz.func115, Tryz.ntmps115
 go_upto_region 1 with fail
 rw [<- hwa]
 clear hwa
 go_wp2_with fail
 refine (HCL.out wa HXA.out).mono ?_
 rintro r w1 ⟨rfl, hx1⟩
 have HX1 := hI (HXA.out.trans hx1)
 have HB01 := hI (hx1.blk HB0.out)
 have HB11 := hI (hx1.blk HB1.out)
 have HB21 := hI (hx1.blk HB2.out)
 clear hx1 e0 ef HCL HB0 HB1 HB2
 by_cases h1 : E1 = 0
 case neg =>
  have t1 : (E1 != 0) = true := by simp [h1]
  have HQ := hI (show R = E1 by rw [HR.out, if_pos h1])
  have HNZ := hI h1
  clear h1
  obtain ⟨r0, r1, r2, rf⟩ := blk3 HB21.out
  go_wp2_with fail
  obtain ⟨wz, hwz⟩ : ∃ wz, wz = put3 w1 (w.heap.size + 1 + 1) (.slice none 0 0) (.map none) (.slice none 0 0) := ⟨_, rfl⟩
  have HZ := hI (show wz.heap[w.heap.size + 1 + 1]? = some (.cells #[.slice none 0 0, .map none, .slice none 0 0] 183 (0, 0)) by rw [hwz]; exact put3_blk HB21.out _ _ _)
  have HXZ := hI (show Ext w wz by rw [hwz]; exact (put3_chg w1 (w.heap.size + 1 + 1) (.slice none 0 0) (.map none) (.slice none 0 0) (N := [w.heap.size + 1 + 1]) (by simp)).ext HX1.out (fun y hy => by simp only [List.mem_singleton] at hy; omega))
  unfold put3 at hwz
  rw [<- hwz]
  clear hwz
  obtain ⟨z0, z1, z2, zf⟩ := blk3 HZ.out
  refine bodyPost_ret (v := .tuple #[lossZero, .int .i64 E1]) (by simp [results, Tryz.results115, go_sem, lossZero, z0, z1, z2]) rfl ?_
  exact ⟨HXZ.out, Or.inl ⟨by rw [HQ.out]; exact HNZ.out, by rw [HQ.out]⟩⟩
 have t1 : (E1 != 0) = false := by simp [h1]
 have HR2 := hI (show R = if E2 ≠ 0 then E2 else if 2000 < X then 4 else if B = false then 16 else 0 by rw [HR.out, if_neg (by simpa using h1)])
 have HXP1 := hI (HXP.out h1)
 have HCK := hI (HCK1.out h1)
 clear h1 HR HXP HCK1
 obtain ⟨e0, ef⟩ := blk1 HB01.out
 obtain ⟨f0, f1, f2, f3, f4, f5, ff⟩ := blk6 HB11.out
 go_wp2_with fail
 refine (HEX.out w1 HX1.out).mono ?_
 rintro r w2 ⟨rfl, hx2⟩
 have HX2 := hI (HX1.out.trans hx2)
 have HB02 := hI (hx2.blk HB01.out)
 have HB12 := hI (hx2.blk HB11.out)
 have HB22 := hI (hx2.blk HB21.out)
 clear hx2 e0 ef f0 f1 f2 f3 f4 f5 ff HEX
 by_cases h2 : E2 = 0
 case neg =>
  have t2 : (E2 != 0) = true := by simp [h2]
  have HQ := hI (show R = E2 by rw [HR2.out, if_pos h2])
  have HNZ := hI h2
  clear h2
  obtain ⟨r0, r1, r2, rf⟩ := blk3 HB22.out
  go_wp2_with fail
  obtain ⟨wz, hwz⟩ : ∃ wz, wz = put3 w2 (w.heap.size + 1 + 1) (.slice none 0 0) (.map none) (.slice none 0 0) := ⟨_, rfl⟩
  have HZ := hI (show wz.heap[w.heap.size + 1 + 1]? = some (.cells #[.slice none 0 0, .map none, .slice none 0 0] 183 (0, 0)) by rw [hwz]; exact put3_blk HB22.out _ _ _)
  have HXZ := hI (show Ext w wz by rw [hwz]; exact (put3_chg w2 (w.heap.size + 1 + 1) (.slice none 0 0) (.map none) (.slice none 0 0) (N := [w.heap.size + 1 + 1]) (by simp)).ext HX2.out (fun y hy => by simp only [List.mem_singleton] at hy; omega))
  unfold put3 at hwz
  rw [<- hwz]
  clear hwz
  obtain ⟨z0, z1, z2, zf⟩ := blk3 HZ.out
  refine bodyPost_ret (v := .tuple #[lossZero, .int .i64 E2]) (by simp [results, Tryz.results115, go_sem, lossZero, z0, z1, z2]) rfl ?_
  exact ⟨HXZ.out, Or.inl ⟨by rw [HQ.out]; exact HNZ.out, by rw [HQ.out]⟩⟩
 have t2 : (E2 != 0) = false := by simp [h2]
 have HR3 := hI (show R = if 2000 < X then 4 else if B = false then 16 else 0 by rw [HR2.out, if_neg (by simpa using h2)])
 have HXP2 := hI (HXP1.out h2)
 clear h2 HR2 HXP1
 obtain ⟨f0, f1, f2, f3, f4, f5, ff⟩ := blk6 HB12.out
 go_wp2_with fail
 refine (HXP2.out w2 HX2.out).mono ?_
 rintro r w3 ⟨rfl, hx3⟩
 have HX3 := hI (HX2.out.trans hx3)
 have HB03 := hI (hx3.blk HB02.out)
 have HB23 := hI (hx3.blk HB22.out)
 clear hx3 f0 f1 f2 f3 f4 f5 ff HXP2
 by_cases h3 : 2000 < X
 case pos =>
  have t3 : decide ((2000 : Int) < (X : Int)) = true := decide_eq_true (by omega)
  have HQ := hI (show R = 4 by rw [HR3.out, if_pos h3])
  clear h3
  obtain ⟨r0, r1, r2, rf⟩ := blk3 HB23.out
  go_wp2_with fail
  obtain ⟨wz, hwz⟩ : ∃ wz, wz = put3 w3 (w.heap.size + 1 + 1) (.slice none 0 0) (.map none) (.slice none 0 0) := ⟨_, rfl⟩
  have HZ := hI (show wz.heap[w.heap.size + 1 + 1]? = some (.cells #[.slice none 0 0, .map none, .slice none 0 0] 183 (0, 0)) by rw [hwz]; exact put3_blk HB23.out _ _ _)
  have HXZ := hI (show Ext w wz by rw [hwz]; exact (put3_chg w3 (w.heap.size + 1 + 1) (.slice none 0 0) (.map none) (.slice none 0 0) (N := [w.heap.size + 1 + 1]) (by simp)).ext HX3.out (fun y hy => by simp only [List.mem_singleton] at hy; omega))
  unfold put3 at hwz
  rw [<- hwz]
  clear hwz
  obtain ⟨z0, z1, z2, zf⟩ := blk3 HZ.out
  refine bodyPost_ret (v := .tuple #[lossZero, .int .i64 4]) (by simp [results, Tryz.results115, go_sem, lossZero, z0, z1, z2]) rfl ?_
  exact ⟨HXZ.out, Or.inl ⟨by rw [HQ.out]; decide, by rw [HQ.out]⟩⟩
 have t3 : decide ((2000 : Int) < (X : Int)) = false := decide_eq_false (by omega)
 have HR4 := hI (show R = if B = false then 16 else 0 by rw [HR3.out, if_neg h3])
 clear h3 HR3
 obtain ⟨e0, ef⟩ := blk1 HB03.out
 go_wp2_with fail
 refine (HFC.out w3 HX3.out).mono ?_
 rintro r w4 ⟨rfl, hx4⟩
 have HX4 := hI (HX3.out.trans hx4)
 have HB04 := hI (hx4.blk HB03.out)
 have HB24 := hI (hx4.blk HB23.out)
 clear hx4 e0 ef HFC
 cases B
 case false =>
  have HQ := hI (show R = 16 by rw [HR4.out]; rfl)
  obtain ⟨r0, r1, r2, rf⟩ := blk3 HB24.out
  go_wp2_with fail
  obtain ⟨wz, hwz⟩ : ∃ wz, wz = put3 w4 (w.heap.size + 1 + 1) (.slice none 0 0) (.map none) (.slice none 0 0) := ⟨_, rfl⟩
  have HZ := hI (show wz.heap[w.heap.size + 1 + 1]? = some (.cells #[.slice none 0 0, .map none, .slice none 0 0] 183 (0, 0)) by rw [hwz]; exact put3_blk HB24.out _ _ _)
  have HXZ := hI (show Ext w wz by rw [hwz]; exact (put3_chg w4 (w.heap.size + 1 + 1) (.slice none 0 0) (.map none) (.slice none 0 0) (N := [w.heap.size + 1 + 1]) (by simp)).ext HX4.out (fun y hy => by simp only [List.mem_singleton] at hy; omega))
  unfold put3 at hwz
  rw [<- hwz]
  clear hwz
  obtain ⟨z0, z1, z2, zf⟩ := blk3 HZ.out
  refine bodyPost_ret (v := .tuple #[lossZero, .int .i64 16]) (by simp [results, Tryz.results115, go_sem, lossZero, z0, z1, z2]) rfl ?_
  exact ⟨HXZ.out, Or.inl ⟨by rw [HQ.out]; decide, by rw [HQ.out]⟩⟩
 have HQ := hI (show R = 0 by rw [HR4.out]; rfl)
 have hmm := @run_makeMap Tryz.prog
 have HM0 := hI (MapAt.made w4 9)
 have HX0 := hI ((Ext.refl w4).alloc (.map #[] 0))
 obtain ⟨bf, hbf⟩ : ∃ bf : Nat, bf = w4.heap.size := ⟨_, rfl⟩
 have HBF := hI hbf
 have HBW := hI (show w.heap.size + 1 + 1 < bf by rw [hbf]; exact blk_lt HB24.out)
 go_wp2_with fail
 rw [<- hbf]
 rw [<- hbf] at HM0
 clear hbf hmm
 go_loopw [47] (fun i wr => ∃ (k : Nat) (g : BA -> Option Value), k <= n /\ i = .int .i64 k /\ MapAt wr 9 bf k (strF g) /\ DefsG w (l.take k) g /\ wr.heap[w.heap.size]? = some (.cells #[.slice sa sn sc] 24 (0, 0)) /\ wr.heap[w.heap.size + 1 + 1]? = some (.cells #[.slice none 0 0, .map none, .slice none 0 0] 183 (0, 0)) /\ Ext w wr) (fun i _ => n - (intOf i).toNat)
 case atStart =>
  refine ⟨0, fun _ => none, by omega, rfl, HM0.out.congr fun x => ?_, fun s => ⟨fun _ => rfl, fun d hd => ?_⟩, HX0.out.blk HB04.out, HX0.out.blk HB24.out, HX4.out.trans HX0.out⟩
  ·cases x <;> simp [strF]
  simp [defAt] at hd
 case round =>
  obtain ⟨k, g, hk, rfl, hmap, hg, hb0, hb2, hx⟩ := hrel
  have HMP := hI hmap
  have HX := hI hx
  have HG := hI hg
  have HBA := hI hb0
  have HBC := hI hb2
  have hbw := hmap.lt
  clear hmap hx hg HM0 HX0 hb0 hb2
  by_cases hlt : k < n
  ·have hlt' : k < l.length := by have := HN.out; omega
   have t1 : decide ((k : Int) < (n : Int)) = true := decide_eq_true (by omega)
   obtain ⟨cb, coff, v, rfl, hcla, hrow⟩ := HL.out.at hlt'
   obtain ⟨c0, c1, c2, c3, c4, c5, c6, c7, c8, c9⟩ := (hrow.mono HX.out.sub).ten
   have hns : v.name.size <= 1000000000000000 := by rw [hcla.2.1]; exact HSZ.out _ (List.getElem_mem hlt')
   have hblt := block_lt c0
   simp only at hblt
   have HEXV := hI (show IsEx w l[k].cond (.agg #[.int .i64 v.x.op, .string v.x.name, .slice v.x.aw v.x.nw v.x.cw, .int .i64 v.x.lo, .int .i64 v.x.hi, .slice v.x.aa v.x.na v.x.ca]) from hcla.2.2.1)
   have HEK := hI (show l[k].kind = v.kind from hcla.1.symm)
   have HEN := hI (show l[k].name = v.name from hcla.2.1.symm)
   have HFR := hI (HCK.out.fresh hlt')
   rw [HEN.out] at HFR
   have HST := hI (fun h1 h2 => HG.out.step hlt' h1 h2 HEXV.out)
   have HSK := hI (HG.out.skip hlt')
   rw [HEK.out, HEN.out] at HST HSK
   clear hcla hrow
   cases hkd : (v.kind == 1)
   ·have HKN := hI (HSK.out (Or.inl (by simpa using hkd)))
    go_wp2_with fail
    go_roundw
    case rel =>
     have hxa := (Ext.refl wr).alloc (.cells #[.int .i64 v.kind, .string v.name, .int .i64 v.x.op, .string v.x.name, .slice v.x.aw v.x.nw v.x.cw, .int .i64 v.x.lo, .int .i64 v.x.hi, .slice v.x.aa v.x.na v.x.ca, .slice v.au v.nu v.cu, .int .i64 v.amount] 48)
     exact ⟨k + 1, g, by omega, by go_num, (HMP.out.ext hxa).more (by omega), HKN.out, hxa.blk HBA.out, hxa.blk HBC.out, HX.out.trans hxa⟩
    case measure => simp [intOf]; omega
   have HKN := hI (HST.out (by simpa using hkd) HFR.out)
   go_wp2_with (at_mapUpdate; refine wpList_map_put _ rfl _ _ _ 131 rfl 9 45 keyedStr uMapSE bf k _ rfl (HMP.out.ext ((Ext.refl wr).alloc _)) ?c3 _ _ _ rfl rfl (keyStr hns) trivial ?_)
   case c3 => unfold maxLen; omega
   intro w6 hm1 hc1
   have hxa := (Ext.refl wr).alloc (.cells #[.int .i64 v.kind, .string v.name, .int .i64 v.x.op, .string v.x.name, .slice v.x.aw v.x.nw v.x.cw, .int .i64 v.x.lo, .int .i64 v.x.hi, .slice v.x.aa v.x.na v.x.ca, .slice v.au v.nu v.cu, .int .i64 v.amount] 48)
   have hxm : Ext w w6 := hc1.ext (HX.out.trans hxa) (fun y hy => by simp only [List.mem_singleton] at hy; have := HBW.out; omega)
   have HB06 := hI (hc1.blk (hxa.blk HBA.out) (by have := HBW.out; simp; omega))
   have HB26 := hI (hc1.blk (hxa.blk HBC.out) (by have := HBW.out; simp; omega))
   have HM1 := hI (hm1.congr (setF_str g v.name _))
   have HX1 := hI hxm
   clear hm1 hc1 hxa hxm
   go_wp2_with fail
   go_roundw
   case rel => exact ⟨k + 1, _, by omega, by go_num, HM1.out, HKN.out, HB06.out, HB26.out, HX1.out⟩
   case measure => simp [intOf]; omega
  have t1 : decide ((k : Int) < (n : Int)) = false := decide_eq_false (by omega)
  have HKN := hI (show k = n by omega)
  obtain ⟨e0, ef⟩ := blk1 HBA.out
  obtain ⟨r0, r1, r2, rf⟩ := blk3 HBC.out
  go_wp2_with fail
  obtain ⟨wz, hwz⟩ : ∃ wz, wz = put3 wr (w.heap.size + 1 + 1) (.slice sa sn sc) (.map (some bf)) (.slice fa fn fc) := ⟨_, rfl⟩
  have HZ := hI (show wz.heap[w.heap.size + 1 + 1]? = some (.cells #[.slice sa sn sc, .map (some bf), .slice fa fn fc] 183 (0, 0)) by rw [hwz]; exact put3_blk HBC.out _ _ _)
  have hcz : Chg [w.heap.size + 1 + 1] wr wz := by rw [hwz]; exact put3_chg wr (w.heap.size + 1 + 1) (.slice sa sn sc) (.map (some bf)) (.slice fa fn fc) (by simp)
  have HXZ := hI (hcz.ext HX.out (fun y hy => by simp only [List.mem_singleton] at hy; omega))
  have HLZ := hI (show IsLoss wz s l f ⟨sa, sn, sc, bf, fa, fn, fc⟩ n from ⟨HS.out.ext HXZ.out, by
   exact ⟨g, by rw [<- HKN.out]; exact HMP.out.chg hcz (by have := HBW.out; simp; omega), by have := HG.out.ext HXZ.out; rwa [List.take_of_length_le (by have := HN.out; omega)] at this⟩, HI.out.ext HXZ.out⟩)
  unfold put3 at hwz
  rw [<- hwz]
  clear hwz hcz
  obtain ⟨z0, z1, z2, zf⟩ := blk3 HZ.out
  refine bodyPost_ret (v := .tuple #[LossV.val ⟨sa, sn, sc, bf, fa, fn, fc⟩, .int .i64 0]) (by simp [results, Tryz.results115, go_sem, LossV.val, z0, z1, z2]) rfl ?_
  exact ⟨HXZ.out, Or.inr ⟨by rw [HQ.out], _, rfl, HLZ.out⟩⟩
end Go.Proofs.YtefjomofjejklaaGreatDoor
