/-
  Texts of the claim, joined: Ord5, Awk, Defd.
-/
import Derived.Test.YtefjomofjejklaaGreatDoorDt16
namespace Go.Proofs.YtefjomofjejklaaGreatDoor
set_option maxRecDepth 100000
set_option maxHeartbeats 32000000
open Go.RowKit Go.Maps
def L2 (w : World) (dl : List Dfn) (bf bu bm bp n : Nat) (cnt i : Value) (wr : World) : Prop := ∃ k t s, k <= n /\ i = .int .i64 k /\ cnt = .int .i64 (cntTo dl k) /\ t <= tb k /\ OB w dl bf bu bm bp t s wr /\ Ph2 dl k s
def L3 (w : World) (dl : List Dfn) (bf bu bm bp k nb : Nat) (names : ZB) (an : OA) (m cn : Nat) (i : Value) (wr : World) : Prop := ∃ j t s, j <= m /\ i = .int .i64 j /\ t <= tb k + 3 * j + 1 /\ OB w dl bf bu bm bp t s wr /\ Ph3 dl k j s /\ s.mb k = nb /\
 IsStrs wr names an m cn /\ ∀ b off, an = some ⟨b, off, none⟩ -> s.ρ b = .none
def L4 (w : World) (dl : List Dfn) (bf bu bm bp t m : Nat) (ord : Value) (wr : World) : Prop := ∃ s, m = countOf dl - s.O.length /\ OB w dl bf bu bm bp t s wr /\ ord = s.vo /\ Ph4 dl s
theorem ints_of_owns {w : World} {base : Nat} {e : TypeId} {o : ZN} {a : OA} {n c : Nat} (h : w.ownsRow base e 1 (.slice a n c) o.length (natVs o)) (hn : n = o.length) : IsInts w (ints o) a n c := by
 subst hn
 rcases h.2 with ⟨hv, h0⟩ | ⟨g, cap, cur, hv, _, hg, hle, _, _, _⟩
 ·simp only [Value.slice.injEq] at hv
  obtain ⟨rfl, _, rfl⟩ := hv
  have : o = [] := List.eq_nil_of_length_eq_zero h0
  subst this
  exact ⟨rfl, by simp, Or.inl ⟨rfl, rfl⟩, fun i hi => by simp [ints] at hi⟩
 simp only [Value.slice.injEq] at hv
 obtain ⟨rfl, _, rfl⟩ := hv
 refine ⟨by simp [ints], hle, Or.inr ⟨g, 0, rfl⟩, fun i hi => ⟨g, 0, rfl, ?_⟩⟩
 have hi' : i < o.length := by simpa [ints] using hi
 rw [Nat.zero_add, h.cellAt i (by omega)]
 simp [natVs, ints, hi']
def L5 (w : World) (dl : List Dfn) (bf bu bm bp t : Nat) (o : ZN) (i : Nat) (R' : ZN) (uv : BA -> Option Value) (vo : Value) (m : Nat) (q : Value) (wr : World) : Prop := ∃ j s, j <= m /\ q = .int .i64 j /\ OB w dl bf bu bm bp t s wr /\ Ph5 dl o i R' uv vo j s
theorem elemInts : ElemT 26 3 (.int .i64 0) 1 8 := ⟨by kernel_rfl, by kernel_rfl, rfl, by omega⟩
theorem memF_step (m : BA -> Prop) (x : BA) (y : Lit) : setF (strF (memF m)) (.string x.data.toList) (some (.agg #[])) y = strF (memF fun z => z = x \/ m z) y := by
 rw [setF_str]
 cases y <;> try rfl
 rename_i bs
 simp only [strF]
 by_cases e : (⟨bs.toArray⟩ : BA) = x
 ·rw [e, upS_same]; simp [memF]
 rw [upS_other _ _ e]; by_cases h : m ⟨bs.toArray⟩ <;> simp [memF, e, h]
theorem memF_del (m : BA -> Prop) (x : BA) (y : Lit) : setF (strF (memF m)) (.string x.data.toList) none y = strF (memF fun z => m z /\ z ≠ x) y := by
 rw [setF_str]
 cases y <;> try rfl
 rename_i bs
 simp only [strF]
 by_cases e : (⟨bs.toArray⟩ : BA) = x
 ·rw [e, upS_same]; simp [memF]
 rw [upS_other _ _ e]; by_cases h : m ⟨bs.toArray⟩ <;> simp [memF, e, h]
theorem set_empty (m : BA -> Prop) : (∀ x, WideAt.IsKeyLit x -> strF (memF m) x = none) ↔ ∀ y, ¬ m y := by
 constructor
 ·intro h y hy
  have := h (.string y.data.toList) trivial
  rw [strF_at] at this
  simp [memF, hy] at this
 intro h x _
 cases x <;> try rfl
 simp [strF, memF, h]
theorem up_nodup {l : ZB} (h : Up l) : l.Nodup := h.imp fun {a b} hab e => by rw [e] at hab; exact absurd hab (List.lt_irrefl _)
theorem order_calls (l : List Cl) (a : OA) (n c : Nat) (w : World) (hl : IsCls w l a n c) (hn : n <= 1000) (hsz : ∀ x ∈ l, x.cond.size <= 100000 /\ x.cond.fits /\ x.name.size <= 1000000000000000) :
  Calls Tryz.prog 80 #[.slice a n c] w (OrdQ (l.map Cl.dfn) w) := by
 have HL := hI hl
 have HN := hI hl.len
 have HSZ := hI hsz
 obtain ⟨dl, hdl⟩ : ∃ dl, dl = l.map Cl.dfn := ⟨_, rfl⟩
 have HDL := hI hdl
 rw [<- hdl]
 clear hl hsz hdl
 have hmm := @run_makeMap Tryz.prog
 have HM0 := hI (MapAt.made w 9)
 have HX0 := hI ((Ext.refl w).alloc (.map #[] 0))
 obtain ⟨bf, hbf⟩ : ∃ bf : Nat, bf = w.heap.size := ⟨_, rfl⟩
 rw [<- hbf] at HM0
 have HBF := hI hbf
 go_enter Tryz.func80, Tryz.ntmps80
 go_wp2_with fail
 rw [<- hbf]
 clear hbf hmm
 go_loopw [29] (fun i wr => ∃ k : Nat, k <= n /\ i = .int .i64 k /\ MapAt wr 9 bf k (strF (firstF (dl.take k))) /\ Ext w wr) (fun i _ => n - (intOf i).toNat)
 case atStart =>
  refine ⟨0, by omega, rfl, HM0.out.congr fun x => ?_, HX0.out⟩
  cases x <;> simp [strF, firstF, firstAt]
 case round =>
  obtain ⟨k, hk, rfl, hmap, hx⟩ := hrel
  have HMP := hI hmap
  have HX := hI hx
  have hbw := hmap.lt
  clear hmap hx HM0 HX0
  by_cases hlt : k < n
  ·have hlt' : k < l.length := by have := HN.out; omega
   have t1 : decide ((k : Int) < (n : Int)) = true := by simp; omega
   obtain ⟨b, off, v, rfl, q1, q2, q3, c0, c1, c2, c3, c4, c5, c6, c7, c8, c9⟩ := (HL.out.ext HX.out).at10 hlt'
   have hdk : dl[k]? = some l[k].dfn := by rw [HDL.out]; simp [hlt']
   have hns : v.name.size <= 1000000000000000 := by rw [q2]; exact (HSZ.out _ (List.getElem_mem hlt')).2.2
   have hblt := block_lt c0
   simp only at hblt
   have hdl' : k < dl.length := by rw [HDL.out]; simpa using hlt'
   have e0 : dl[k] = l[k].dfn := by simp only [HDL.out]; simp
   have HEI := hI (show dl[k].is = (v.kind == 1) by rw [e0, q1]; rfl)
   have HEN := hI (show dl[k].name = v.name by rw [e0, q2]; rfl)
   have HST := hI (@firstF_step dl k hdl')
   have HSK := hI (@firstF_skip dl k hdl')
   rw [HEN.out, HEI.out] at HST HSK
   clear e0 hdk q1 q2 q3 HEI HEN
   cases hfa : firstAt (dl.take k) v.name with
   | none =>
    have HF := hI (firstF_none hfa)
    cases hkd : (v.kind == 1)
    ·have HKN := hI (HSK.out (Or.inl hkd))
     go_wp2_with (at_lookup; refine wpList_map_ok _ rfl _ _ 136 rfl 9 3 keyedStr uMapSI (zeroInt _) bf k _ rfl (HMP.out.ext ((Ext.refl wr).alloc _)) _ _ rfl (keyStr hns) trivial ?_; rw [HF.out])
     go_roundw
     case rel => exact ⟨k + 1, by omega, by go_num, ((HMP.out.ext ((Ext.refl wr).alloc _)).more (by omega)).congr HKN.out, HX.out.alloc _⟩
     case measure => simp [intOf]; omega
    have HKN := hI (HST.out hkd hfa)
    clear hfa
    go_wp2_with (first
     | (at_lookup; refine wpList_map_ok _ rfl _ _ 136 rfl 9 3 keyedStr uMapSI (zeroInt _) bf k _ rfl (HMP.out.ext ((Ext.refl wr).alloc _)) _ _ rfl (keyStr hns) trivial ?_; rw [HF.out])
     | (at_mapUpdate; refine wpList_map_put _ rfl _ _ _ 136 rfl 9 3 keyedStr uMapSI bf k _ rfl (HMP.out.ext ((Ext.refl wr).alloc _)) ?c3 _ _ _ rfl rfl (keyStr hns) trivial ?_))
    case c3 => unfold maxLen; omega
    intro w1 hm1 hc1
    have HM1 := hI (hm1.congr HKN.out)
    have HX1 := hI (hc1.ext (HX.out.alloc _) (by rw [<- HBF.out]; simp))
    clear hm1 hc1
    go_wp2_with fail
    go_roundw
    case rel => exact ⟨k + 1, by omega, by go_num, HM1.out, HX1.out⟩
    case measure => simp [intOf]; omega
   | some d =>
    have HF := hI (firstF_some hfa)
    have HKN := hI (HSK.out (Or.inr (by rw [hfa]; simp)))
    clear hfa
    cases hkd : (v.kind == 1)
    all_goals
     go_wp2_with (at_lookup; refine wpList_map_ok _ rfl _ _ 136 rfl 9 3 keyedStr uMapSI (zeroInt _) bf k _ rfl (HMP.out.ext ((Ext.refl wr).alloc _)) _ _ rfl (keyStr hns) trivial ?_; rw [HF.out])
     go_roundw
     case rel => exact ⟨k + 1, by omega, by go_num, ((HMP.out.ext ((Ext.refl wr).alloc _)).more (by omega)).congr HKN.out, HX.out.alloc _⟩
     case measure => simp [intOf]; omega
  have hkn : k = dl.length := by rw [HDL.out]; have := HN.out; simp; omega
  have HM1 := hI (show MapAt wr 9 bf 1000 (strF (firstF dl)) by have := HMP.out; rw [hkn, List.take_length] at this; exact this.more (by omega))
  have HXW := hI HX.out
  have hbfw : w.heap.size <= bf := by rw [HBF.out]; exact Nat.le_refl _
  have HOB := hI (OB.start HM1.out HX.out hbfw)
  have hmm := @run_makeMap Tryz.prog
  clear HM1 HMP hbw hkn
  go_upto_region 13 with fail
  clear hmm hk hlt
  generalize ((wr.alloc (.cells #[.slice none 0 0] 171)).alloc (.map #[] 0)).alloc (.map #[] 0) = wa at *
  obtain ⟨bp, hbp⟩ : ∃ bp : Nat, bp = wr.heap.size := ⟨_, rfl⟩
  obtain ⟨bm, hbm⟩ : ∃ bm : Nat, bm = wr.heap.size + 1 := ⟨_, rfl⟩
  obtain ⟨bu, hbu⟩ : ∃ bu : Nat, bu = wr.heap.size + 2 := ⟨_, rfl⟩
  rw [show wr.heap.size + 1 + 1 = wr.heap.size + 2 from rfl]
  rw [<- hbu, <- hbm, <- hbp] at HOB ⊢
  clear hbp hbm hbu HX HXW
  go_wp2_with fail
  go_loopw [9, 59] (L2 w dl bf bu bm bp n) (fun _ i _ => n - (intOf i).toNat)
  case atStart => exact ⟨0, 1000, _, by omega, rfl, rfl, tb_zero, HOB.out, Ph2.start _ _ _ _ _⟩
  case round =>
   obtain ⟨k2, t, s, hk2, rfl, rfl, ht, hob, hph⟩ := hrel
   have HO2 := hI hob
   have HP2 := hI hph
   have hcl := cnt_le dl k2
   clear hob hph HOB
   by_cases hlt : k2 < n
   ·have hlt' : k2 < l.length := by have := HN.out; omega
    have t1 : decide ((k2 : Int) < (n : Int)) = true := by simp; omega
    obtain ⟨b, off, v, rfl, q1, q2, q3, c0, c1, c2, c3, c4, c5, c6, c7, c8, c9⟩ := (HL.out.ext HO2.out.ext).at10 hlt'
    have hblt := block_lt c0
    simp only at hblt
    have hdl' : k2 < dl.length := by rw [HDL.out]; simpa using hlt'
    have e0 : dl[k2] = l[k2].dfn := by simp only [HDL.out]; simp
    have HDF := hI (show isDef dl k2 = (v.kind == 1) by unfold isDef; rw [List.getElem?_eq_getElem hdl', e0, q1]; rfl)
    have HUS := hI (show usesAt dl k2 = refNames (namesE l[k2].cond) by unfold usesAt; rw [List.getElem?_eq_getElem hdl', e0]; rfl)
    have HQ3 := hI q3
    obtain ⟨hs1, hs2, hs3⟩ := HSZ.out _ (List.getElem_mem hlt')
    have HS2 := hI hs2
    clear e0 q1 q2 q3 hs2
    cases hkd : (v.kind == 1)
    ·have tk : (v.kind != 1) = true := by simp [bne, hkd]
     have HPS := hI (HP2.out.skip (HDF.out.trans hkd))
     go_wp2_with fail
     go_roundw
     case rel => exact ⟨k2 + 1, t, s, by omega, by go_num, congrArg (fun q : Nat => Value.int .i64 (q : Int)) HPS.out.2.symm, by have := tb_succ k2; omega, HO2.out.extd ((Ext.refl _).alloc _), HPS.out.1⟩
     case measure => simp [intOf]; omega
    have tk : (v.kind != 1) = false := by simp [bne, hkd]
    have hmm := @run_makeMap Tryz.prog
    have HD := hI (HDF.out.trans hkd)
    clear HDF
    have hnb : ¬ s.S k2 := fun h => by have := (HP2.out.S k2).1 h; omega
    go_wp2_with fail
    clear hmm
    obtain ⟨nm, hnm⟩ : ∃ nm, nm = refNames (namesE l[k2].cond) := ⟨_, rfl⟩
    have hnl : nm.length <= 100000 := by rw [hnm]; exact Nat.le_trans (refNames_len2 _) (Nat.le_trans (namesE_len _) hs1)
    have HUP := hI (show nm.Nodup by rw [hnm]; exact up_nodup (refNames_up _))
    have HNS := hI (show ∀ x ∈ nm, x.size <= 1000000000000000 by
     intro x hx
     rw [hnm, refNames_mem] at hx
     exact names_fit _ HS2.out x hx)
    refine (synNamesF_calls l[k2].cond _ _ (by omega) HS2.out (HQ3.out.ext (((Ext.refl wr).alloc _).alloc _))).mono ?_
    rw [<- hnm]
    rw [<- hnm] at HUS
    rintro r w1 ⟨an, cn, rfl, hst, hx1, hfr1⟩
    have HST := hI hst
    have hob3 := (HO2.out.extd ((Ext.refl wr).alloc (.cells #[.int .i64 v.kind, .string v.name, .int .i64 v.x.op, .string v.x.name, .slice v.x.aw v.x.nw v.x.cw, .int .i64 v.x.lo, .int .i64 v.x.hi, .slice v.x.aa v.x.na v.x.ca, .slice v.au v.nu v.cu, .int .i64 v.amount] 48))).newSet hnb
    have HO3 := hI (hob3.extd hx1)
    have HP3 := hI (HP2.out.enter (wr.alloc (.cells #[.int .i64 v.kind, .string v.name, .int .i64 v.x.op, .string v.x.name, .slice v.x.aw v.x.nw v.x.cw, .int .i64 v.x.lo, .int .i64 v.x.hi, .slice v.x.aa v.x.na v.x.ca, .slice v.au v.nu v.cu, .int .i64 v.amount] 48)).heap.size)
    have HFR := hI (show ∀ b off, an = some ⟨b, off, none⟩ -> (s.newSet k2 (wr.alloc (.cells #[.int .i64 v.kind, .string v.name, .int .i64 v.x.op, .string v.x.name, .slice v.x.aw v.x.nw v.x.cw, .int .i64 v.x.lo, .int .i64 v.x.hi, .slice v.x.aa v.x.na v.x.ca, .slice v.au v.nu v.cu, .int .i64 v.amount] 48)).heap.size).ρ b = .none from fun b off e => hob3.fresh b (hfr1 b off e))
    obtain ⟨nb, hnb2⟩ : ∃ nb : Nat, nb = wr.heap.size + 1 := ⟨_, rfl⟩
    have e4 : (wr.alloc (.cells #[.int .i64 v.kind, .string v.name, .int .i64 v.x.op, .string v.x.name, .slice v.x.aw v.x.nw v.x.cw, .int .i64 v.x.lo, .int .i64 v.x.hi, .slice v.x.aa v.x.na v.x.ca, .slice v.au v.nu v.cu, .int .i64 v.amount] 48)).heap.size = nb := by rw [hnb2]; simp
    rw [e4] at HO3 HP3 HFR
    have HNB := hI (show (s.newSet k2 nb).mb k2 = nb by show upN s.mb k2 nb k2 = nb; exact upN_same _ _ _)
    rw [<- hnb2]
    generalize s.newSet k2 nb = s3 at *
    clear hob3 hx1 hst hfr1 e4 hnb2 hnb c0 c1 c2 c3 c4 c5 c6 c7 c8 c9 HO2 HP2 hkd tk hblt HQ3 HS2
    clear hnm
    go_wp2_with fail
    go_loopw [74] (L3 w dl bf bu bm bp k2 nb nm an nm.length cn) (fun i _ => nm.length - (intOf i).toNat)
    case atStart => exact ⟨0, t, s3, by omega, rfl, by omega, HO3.out, HP3.out, HNB.out, HST.out, HFR.out⟩
    case round =>
     obtain ⟨j, t3, s, hj, rfl, ht3, hob, hph, hmb, hst, hfr⟩ := hrel
     have HO := hI hob
     have HP := hI hph
     have HS := hI hst
     have HR := hI hfr
     have HMB := hI hmb
     have htb := tb_le (show k2 <= 1000 by omega)
     clear hob hph hst hfr hmb HO3 HP3 HST HFR HNB
     by_cases hjl : j < nm.length
     ·have tj : decide ((j : Int) < (nm.length : Int)) = true := by simp; omega
      obtain ⟨bn, offn, rfl, cn0⟩ := HS.out.2.2.2 j hjl
      have hsz1 := HNS.out _ (List.getElem_mem hjl)
      have hju : j < (usesAt dl k2).length := by rw [HUS.out]; exact hjl
      have HXJ := hI (show (usesAt dl k2)[j] = nm[j] by simp only [HUS.out])
      have hSk : s.S k2 := (HP.out.S k2).2 (Or.inr rfl)
      cases hfa : firstAt dl nm[j] with
      | none =>
       have HF := hI (firstF_none hfa)
       have HPN := hI (HP.out.skip hju (by rw [HXJ.out]; exact hfa))
       clear hfa
       go_wp2_with (at_lookup; refine wpList_map_ok _ rfl _ _ 136 rfl 9 3 keyedStr uMapSI (zeroInt _) bf t3 _ rfl HO.out.hf _ _ rfl (keyStr hsz1) trivial ?_; rw [HF.out])
       go_roundw
       case rel => exact ⟨j + 1, t3, s, by omega, by go_num, by omega, HO.out, HPN.out, HMB.out, HS.out, HR.out⟩
       case measure => simp [intOf]; omega
      | some d =>
       have HF := hI (firstF_some hfa)
       have HPN := hI (HP.out.step hju (by rw [HXJ.out, hfa]; rfl) (by rw [HUS.out]; exact HUP.out))
       rw [HXJ.out] at HPN
       obtain ⟨x, hxx⟩ : ∃ x, x = nm[j] := ⟨_, rfl⟩
       rw [<- hxx] at HF HPN hsz1 cn0
       have HOM := hI (HO.out.more (show t3 <= t3 + 1 by omega))
       have HSET := hI (HOM.out.sets k2 hSk).2
       rw [HMB.out] at HSET
       clear hfa hxx HXJ
       go_wp2_with (first
        | (at_lookup; refine wpList_map_ok _ rfl _ _ 136 rfl 9 3 keyedStr uMapSI (zeroInt _) bf t3 _ rfl HO.out.hf _ _ rfl (keyStr hsz1) trivial ?_; rw [HF.out])
        | (at_mapUpdate; refine wpList_map_put _ rfl _ _ _ 174 rfl 9 176 keyedStr uSet nb (t3 + 1) _ rfl HSET.out ?c3 _ _ _ rfl rfl (keyStr hsz1) trivial ?_))
       case c3 => unfold maxLen; omega
       intro w2 hm2 hc2
       obtain ⟨s4, hs4⟩ : ∃ s4, s4 = s.setM k2 fun z => z = x \/ s.M k2 z := ⟨_, rfl⟩
       rw [<- hs4] at HPN
       have HO4 := hI (show OB w dl bf bu bm bp (t3 + 2) s4 w2 by
        rw [hs4]
        refine (HOM.out.more (Nat.le_succ _)).setM hSk (by rw [HMB.out]; exact hc2) ?_
        rw [HMB.out]
        exact hm2.congr (memF_step _ x))
       have HS4 := hI (HS.out.chg hc2 (fun b' off' e => by
        intro hmem
        simp only [List.mem_singleton] at hmem
        have h1 := HR.out b' off' e
        rw [hmem, <- HMB.out, ((HO.out.sets k2 hSk).1)] at h1
        cases h1))
       have HR4 := hI (show ∀ b' off', some (⟨bn, offn, none⟩ : Addr) = some ⟨b', off', none⟩ -> s4.ρ b' = .none by rw [hs4]; exact HR.out)
       have HMB4 := hI (show s4.mb k2 = nb by rw [hs4]; exact HMB.out)
       have HU4 := hI (show s4.U x = s.U x by rw [hs4]; rfl)
       have hul : (s4.U x).length <= 1001 := by
        rw [HU4.out, HP.out.U]
        have := UL_le dl k2 x
        split
        ·simp; omega
        omega
       clear hs4 hm2 hc2 HOM HSET HO HS HR HF cn0
       obtain ⟨ra, rc, hrv⟩ := owns_form (HO4.out.rowV_own x)
       have HGET := hI (show (strF s4.uv (.string x.data.toList)).getD (.slice none 0 0) = .slice ra (s4.U x).length rc by rw [strF_at]; exact hrv)
       have HOWN := hI (HO4.out.rowV_own x)
       rw [hrv] at HOWN
       have HRV := hI hrv
       obtain ⟨i0, hi, hz0, hz1, hz2⟩ := info_parts elemInts.info
       have hwb := HO4.out.ext.size
       obtain ⟨ul, hule⟩ : ∃ ul, ul = (s4.U x).length := ⟨_, rfl⟩
       rw [<- hule] at HGET HOWN HRV hul
       have HULE := hI hule
       clear hrv hule
       go_wp2_with (first
        | (at_lookup; refine wpList_map_get _ rfl _ _ 173 rfl 9 26 keyedStr uMapSIs (zeroInts _) bu (t3 + 2) _ rfl HO4.out.hu _ _ rfl (keyStr hsz1) trivial ?_; rw [HGET.out])
        | (at_builtin; refine wpList_append_own_at _ rfl _ _ 26 rfl w.heap.size 3 i0 (.int .i64 0) 1 8 elemInts.ht hi hz0 hz1 hz2 rfl (by decide) _ ul _ rfl (HOWN.out.alloc _) ⟨w2.heap.size, 0, none⟩ 1 1 [.int .i64 k2] rfl rfl ?c4 ?c5 ?c6 ?c7 ?c8 ?_))
       case c4 => exact cell_one_new _ _ _
       case c5 => simp [Value.oneCell']
       case c6 => unfold maxLen; omega
       case c7 => omega
       case c8 => simp; omega
       intro v5 w5 hown5 hgrow5 _ hwh5
       obtain ⟨a5, c5, hv5⟩ := owns_form hown5
       subst hv5
       have hc5 : Chg (rowOf (rowV s4 x)) w2 w5 := by rw [HRV.out]; exact (((Ext.refl w2).alloc _).chg _).then (grown_chg hgrow5)
       have HC5 := hI hc5
       have hr5 := HO4.out.rowV_role x
       have HU5 := hI (HO4.out.hu.chg hc5 (fun hm => by
        have h1 := hr5 bu (mem_rowOf.1 hm)
        rw [HO4.out.ru] at h1
        cases h1))
       have HW5 := hI (show ∀ k, (Value.slice a5 (ul + 1) c5).ownBlock = some k -> (rowV s4 x).ownBlock = some k \/ w2.heap.size <= k by
        intro q hq
        rw [HRV.out]
        rcases hwh5 with e | e
        ·exact Or.inl (e ▸ hq)
        rw [e] at hq; simp at hq; exact Or.inr (by omega))
       have HOWN5 := hI hown5
       clear hown5 hgrow5 hwh5 hc5 hr5 HGET HOWN
       go_wp2_with (at_mapUpdate; refine wpList_map_put _ rfl _ _ _ 173 rfl 9 26 keyedStr uMapSIs bu (t3 + 2) _ rfl HU5.out ?c9 _ _ _ rfl rfl (keyStr hsz1) trivial ?_)
       case c9 => unfold maxLen; omega
       intro w6 hm6 hc6
       have HO6 := hI (show OB w dl bf bu bm bp (t3 + 3) (s4.setU x (.slice a5 (ul + 1) c5) (s4.U x ++ [k2])) w6 by
        refine HO4.out.setU (u := s4.U x ++ [k2]) ?_ HC5.out HW5.out hc6 (hm6.congr (setF_str _ _ _))
        have := HOWN5.out
        rw [HULE.out] at this ⊢
        simpa [natVs] using this)
       have HP6 := hI (HPN.out (.slice a5 (ul + 1) c5))
       rw [<- HU4.out] at HP6
       have hbn6 : bn < w2.heap.size := by
        obtain ⟨b', off', e, hcc⟩ := HS4.out.2.2.2 j hjl
        have := block_lt hcc
        simp only [Option.some.injEq, Addr.mk.injEq, and_true] at e
        simp only at this
        omega
       have HR6 := hI (show ∀ b' off', some (⟨bn, offn, none⟩ : Addr) = some ⟨b', off', none⟩ -> (s4.setU x (.slice a5 (ul + 1) c5) (s4.U x ++ [k2])).ρ b' = .none by
        intro b' off' e
        have h1 := HR4.out b' off' e
        simp only [Option.some.injEq, Addr.mk.injEq, and_true] at e
        exact rerole_none h1 (by omega) (by simp) (HO4.out.rowV_role x) HW5.out)
       have HS6 := hI ((HS4.out.chg HC5.out (fun b' off' e hm => by
        have h1 := HR4.out b' off' e
        rw [HO4.out.rowV_role x b' (mem_rowOf.1 hm)] at h1
        cases h1)).chg hc6 (fun b' off' e hm => by
        simp only [List.mem_singleton] at hm
        have h1 := HR4.out b' off' e
        rw [hm, HO4.out.ru] at h1
        cases h1))
       have HMB6 := hI (show (s4.setU x (.slice a5 (ul + 1) c5) (s4.U x ++ [k2])).mb k2 = nb from HMB4.out)
       generalize s4.setU x (.slice a5 (ul + 1) c5) (s4.U x ++ [k2]) = s6 at *
       clear hm6 hc6 HU5
       go_wp2_with fail
       go_roundw
       case rel => exact ⟨j + 1, t3 + 3, s6, by omega, by go_num, by omega, HO6.out, HP6.out, HMB6.out, HS6.out, HR6.out⟩
       case measure => simp [intOf]; omega
     have tj : decide ((j : Int) < (nm.length : Int)) = false := by simp; omega
     obtain rfl : j = nm.length := by omega
     have HPE := hI (show Ph3 dl k2 (usesAt dl k2).length s by rw [HUS.out]; exact HP.out)
     have hSk : s.S k2 := (HP.out.S k2).2 (Or.inr rfl)
     have HSET := hI (HO.out.sets k2 hSk).2
     rw [HMB.out] at HSET
     have HSR := hI (HO.out.sets k2 hSk).1
     rw [HMB.out] at HSR
     have hEMP : (∀ y, ¬ s.M k2 y) ↔ missL dl [] k2 = [] := by
      rw [List.eq_nil_iff_forall_not_mem]
      refine forall_congr' fun y => not_congr ?_
      rw [HPE.out.Mk, List.take_length, mem_miss]
      constructor
      ·rintro ⟨h1, h2⟩
       obtain ⟨d, hd⟩ := isSome_iff.1 h2
       exact ⟨h1, d, hd, by simp⟩
      rintro ⟨h1, d, h2, _⟩
      exact ⟨h1, isSome_iff.2 ⟨d, h2⟩⟩
     have HEMP := hI hEMP
     have hkk : k2 <= 1000000000000000 := by omega
     clear hEMP HS HR HNS
     go_wp2_with (at_mapUpdate; refine wpList_map_put _ rfl _ _ _ 172 rfl 3 174 keyedInt uMapIM bm t3 _ rfl HO.out.hm ?c10 _ _ _ rfl rfl (keyInt hkk) trivial ?_)
     case c10 => unfold maxLen; omega
     intro w7 hm7 hc7
     have HO7 := hI (show OB w dl bf bu bm bp (t3 + 1) (s.setD k2) w7 by
      refine HO.out.setD hSk hc7 (hm7.congr fun x => ?_)
      rw [HMB.out]
      exact setF_int _ _ _ x)
     have HSET7 := hI (HSET.out.chg hc7 (apart HSR.out HO.out.rm (by simp)))
     clear hm7 hc7 HSET HSR
     go_wp2_with (at_len; refine wpList_map_len _ rfl _ 174 rfl 9 176 keyedStr uSet nb t3 _ rfl HSET7.out ?_)
     intro sz hsz0 hsz1
     rw [set_empty, HEMP.out] at hsz1
     clear HSET7 HEMP
     by_cases hz : sz = 0
     ·have HME := hI (hsz1.1 hz)
      have tz : ((sz : Int) == 0) = true := by simp; omega
      clear hsz1 hz
      have hRl : s.R.length <= 1000 := by
       rw [HPE.out.R.length_eq]
       have := RL_le dl k2
       simp only [natI, List.length_map]; omega
      have hwb := HO7.out.ext.size
      go_wp2_with fail
      refine (hpush_calls w.heap.size bp s.pv s.R k2 w7 HO7.out.hp hwb (by omega)).mono ?_
      rintro r w8 ⟨rfl, pv8, R8, hR8, hp8, hc8, hw8⟩
      have HO8 := hI (HO7.out.setP hp8 hc8 hw8)
      have HP8 := hI (HPE.out.leave0 HD.out HME.out (pv := pv8) hR8)
      clear hR8 hp8 hc8 hw8
      go_wp2_with fail
      go_roundw
      case rel => exact ⟨k2 + 1, t3 + 1, _, by omega, by go_num, by rw [HP8.out.2]; go_num, by have := tb_succ k2; omega, HO8.out, HP8.out.1⟩
      case measure => simp [intOf]; omega
     have HME := hI (fun h => hz (hsz1.2 h))
     have tz : ((sz : Int) == 0) = false := by simp; omega
     clear hsz1 hz
     have HP8 := hI (HPE.out.leave HD.out HME.out)
     go_wp2_with fail
     go_roundw
     case rel => exact ⟨k2 + 1, t3 + 1, _, by omega, by go_num, by rw [HP8.out.2]; go_num, by have := tb_succ k2; omega, HO7.out, HP8.out.1⟩
     case measure => simp [intOf]; omega
   have t1 : decide ((k2 : Int) < (n : Int)) = false := by simp; omega
   have hkd : k2 = dl.length := by rw [HDL.out]; have := HN.out; simp; omega
   have HP4 := hI (show Ph4 dl s by have := HP2.out; rw [hkd] at this; exact this.finish)
   have hcn : (cntTo dl k2) = countOf dl := by rw [hkd]; exact cnt_all dl
   have HVO := hI HP2.out.vo
   have HO0 := hI HP2.out.O
   have htb := tb_le (show k2 <= 1000 by omega)
   have hcb : countOf dl <= 1000 := by rw [<- hcn]; omega
   rw [hcn]
   clear hcn hkd HP2
   go_wp2_with fail
   go_loopg [20] (countOf dl) (L4 w dl bf bu bm bp t)
   case atStart => exact ⟨s, by rw [HO0.out]; rfl, HO2.out, HVO.out.symm, HP4.out⟩
   case round =>
    obtain ⟨s, hm, hob, rfl, hph⟩ := hrel
    have HO := hI hob
    have HP := hI hph
    have HM := hI hm
    obtain ⟨R, hRp, hinv⟩ := hph.inv
    have HRP := hI hRp
    have HINV := hI hinv
    have hRlen : s.R.length = R.length := by rw [hRp.length_eq]; simp [natI]
    have hle := hinv.le
    have HRL := hI hRlen
    obtain ⟨pa, pc, hpv⟩ := hob.hp.form
    have hpc := blk_cell hob.hp.hb 0
    have hplt := blk_lt hob.hp.hb
    simp at hpc
    rw [hpv] at hpc
    obtain ⟨oa, oc, hov⟩ := owns_form hob.hv
    rw [hov]
    have HOV := hI hov
    have HPV := hI hpv
    have hob1 : s.O.length + R.length <= 1000 := by simp at hle; omega
    clear hob hph hm hRp hinv hpv hov HO2 HP4 HVO HO0 hle
    by_cases hR0 : s.R.length = 0
    ·have tr : decide ((0 : Int) < (s.R.length : Int)) = false := by rw [hR0]; rfl
     have hRn : R = [] := List.eq_nil_of_length_eq_zero (by have := HRL.out; omega)
     have HI0 := hI (show OInv dl s.O [] by have := HINV.out; rw [hRn] at this; exact this)
     have HOW := hI HO.out.hv
     rw [HOV.out] at HOW
     have HXX := hI HO.out.ext
     clear hRn
     go_wp2_with fail
     refine (ilen_calls _ _ _ _).mono ?_
     rintro r w1 ⟨rfl, rfl⟩
     by_cases hcc : s.O.length < countOf dl
     ·have tc : decide (s.O.length < countOf dl) = true := by simp [hcc]
      go_wp2_with fail
      go_ret2
      exact ⟨HXX.out, Or.inr ⟨s.O, HI0.out, hcc, rfl⟩⟩
     have tc : decide (s.O.length < countOf dl) = false := by simp [hcc]
     go_wp2_with fail
     go_ret2
     exact ⟨HXX.out, Or.inl ⟨s.O, oa, oc, HI0.out.done (by omega), rfl, ints_of_owns HOW.out rfl⟩⟩
    have tr : decide ((0 : Int) < (s.R.length : Int)) = true := decide_eq_true (by omega)
    go_wp2_with fail
    refine (ilen_calls _ _ _ _).mono ?_
    rintro r w1 ⟨rfl, rfl⟩
    go_wp2_with fail
    refine (hpop_calls w.heap.size bp s.pv s.R wr HO.out.hp (by omega) (by omega)).mono ?_
    rintro r w1 ⟨z, pv1, R1, rfl, hR1, hp1, hc1, hw1⟩
    obtain ⟨i, R', rfl, hRR, hR1'⟩ := natI_perm (HRP.out.symm.trans hR1)
    have HO1 := hI (HO.out.setP hp1 hc1 hw1)
    have HRR := hI hRR
    have HR1 := hI hR1'
    have hid1 : isDef dl i = true := ((HINV.out.ready i).1 (by rw [List.mem_append]; exact Or.inr (hRR.mem_iff.2 (by simp)))).1
    have HID := hI hid1
    have hidl := isDef_lt hid1
    have hin : i < n := by have := HN.out; rw [HDL.out] at hidl; simp at hidl; omega
    have hta : ∀ W : World, (Instr.typeAssert (.iface 3 (.int .i64 (i : Int))) 20 3 true).run Tryz.prog W = .ok (.tuple #[.int .i64 (i : Int), .bool true]) W := fun W => by kernel_rfl
    clear hR1 hp1 hc1 hw1 hRR hR1' hid1 hpc hplt
    obtain ⟨i0, hi0, hz0, hz1, hz2⟩ := info_parts elemInts.info
    have hwb := HO1.out.ext.size
    have HOWN := hI HO1.out.hv
    have e7 : (s.setP pv1 R1).vo = s.vo := rfl
    have e8 : (s.setP pv1 R1).O = s.O := rfl
    rw [e7, e8, HOV.out] at HOWN
    clear e7 e8
    go_wp2_with (at_builtin; refine wpList_append_own_at _ rfl _ _ 26 rfl w.heap.size 3 i0 (.int .i64 0) 1 8 elemInts.ht hi0 hz0 hz1 hz2 rfl (by decide) _ s.O.length _ rfl (HOWN.out.alloc _) ⟨w1.heap.size, 0, none⟩ 1 1 [.int .i64 i] rfl rfl ?d1 ?d2 ?d3 ?d4 ?d5 ?_)
    case d1 => exact cell_one_new _ _ _
    case d2 => simp [Value.oneCell']
    case d3 => unfold maxLen; omega
    case d4 => omega
    case d5 => simp; omega
    intro v2 w2 hown2 hgrow2 _ hwh2
    obtain ⟨a2, c2, hv2⟩ := owns_form hown2
    subst hv2
    have HO3 := hI (show OB w dl bf bu bm bp t ((s.setP pv1 R1).setO (.slice a2 (s.O.length + 1) c2) (s.O ++ [i])) w2 by
     refine HO1.out.setO ?_ ?_ ?_
     ·have := hown2
      simpa [natVs] using this
     ·show Chg (rowOf s.vo) w1 w2
      rw [HOV.out]
      exact (((Ext.refl w1).alloc _).chg _).then (grown_chg hgrow2)
     intro q hq
     show s.vo.ownBlock = some q \/ _
     rw [HOV.out]
     rcases hwh2 with e | e
     ·exact Or.inl (e ▸ hq)
     rw [e] at hq; simp at hq; exact Or.inr (by omega))
    clear hown2 hgrow2 hwh2 HOWN hta
    have hil : i < l.length := by have := HN.out; omega
    obtain ⟨b, off, v, rfl, q1, q2, q3, c0, c1, k2', c3, c4, c5, c6, c7, c8, c9⟩ := (HL.out.ext HO3.out.ext).at10 hil
    have e0 : dl[i] = l[i].dfn := by simp only [HDL.out]; simp
    have HNA := hI (show nameAt dl i = v.name by unfold nameAt; rw [List.getElem?_eq_getElem hidl, e0, q2]; rfl)
    have hns : v.name.size <= 1000000000000000 := by rw [q2]; exact (HSZ.out _ (List.getElem_mem hil)).2.2
    obtain ⟨d, hd1, hd2⟩ := first_of_def HID.out
    rw [HNA.out] at hd1
    have HD1 := hI hd1
    have HF := hI (firstF_some hd1)
    have ti0 : (0 : Int) <= (i : Int) := by omega
    have ti1 : (i : Int) < (n : Int) := by omega
    clear q1 q2 q3 c0 k2' c3 c4 c5 c6 c7 c8 c9 e0 hd1
    by_cases hdi : d = i
    ·subst hdi
     have td : ((d : Int) != (d : Int)) = false := by simp
     have HP5 := hI (Ph5.start (R' := R') (i := d) (pv := pv1) (vo := .slice a2 (s.O.length + 1) c2) HP.out HR1.out)
     obtain ⟨s5, hs5⟩ : ∃ s5, s5 = (s.setP pv1 R1).setO (.slice a2 (s.O.length + 1) c2) (s.O ++ [d]) := ⟨_, rfl⟩
     rw [<- hs5] at HO3 HP5
     have hnam := HNA.out
     obtain ⟨ra, rc, hrv⟩ := owns_form (HO3.out.rowV_own v.name)
     obtain ⟨m5, hm5⟩ : ∃ m5, m5 = (s5.U v.name).length := ⟨_, rfl⟩
     have hm5u : m5 = (UL dl dl.length (nameAt dl d)).length := by rw [hm5, HP5.out.U, hnam]
     have HM5 := hI hm5u
     have hm5l : m5 <= 1000 := by
      rw [hm5u]
      have := UL_le dl dl.length (nameAt dl d)
      have h2 := HN.out
      have h3 : dl.length = l.length := by rw [HDL.out]; simp
      omega
     rw [<- hm5] at hrv
     have HGET := hI (show (strF s5.uv (.string v.name.data.toList)).getD (.slice none 0 0) = .slice ra m5 rc by rw [strF_at]; exact hrv)
     have HUV := hI (show rowV s5 v.name = .slice ra m5 rc from hrv)
     obtain ⟨uv, huv⟩ : ∃ uv, uv = s.uv := ⟨_, rfl⟩
     have HUV2 := hI (show (uv v.name).getD (.slice none 0 0) = .slice ra m5 rc by rw [huv, <- HP5.out.uv]; exact hrv)
     rw [<- huv] at HP5
     have HNM := hI hnam
     clear hs5 hrv hm5 hm5u huv hnam
     go_wp2_with (first
      | (at_lookup; refine wpList_map_get _ rfl _ _ 136 rfl 9 3 keyedStr uMapSI (zeroInt _) bf t _ rfl HO3.out.hf _ _ rfl (keyStr hns) trivial ?_; rw [HF.out])
      | (at_lookup; refine wpList_map_get _ rfl _ _ 173 rfl 9 26 keyedStr uMapSIs (zeroInts _) bu t _ rfl HO3.out.hu _ _ rfl (keyStr hns) trivial ?_; rw [HGET.out]))
     go_loopw [140] (L5 w dl bf bu bm bp t s.O d R' uv (.slice a2 (s.O.length + 1) c2) m5) (fun q _ => m5 - (intOf q).toNat)
     case atStart => exact ⟨0, s5, by omega, rfl, HO3.out, HP5.out⟩
     case round =>
      obtain ⟨j, s6, hj, rfl, hob6, hph6⟩ := hrel
      have HO6 := hI hob6
      have HP6 := hI hph6
      clear hob6 hph6 HO3 HP5 HGET
      by_cases hjl : j < m5
      ·have tj : decide ((j : Int) < (m5 : Int)) = true := by simp; omega
       have hju : j < (UL dl dl.length (nameAt dl d)).length := by have := HM5.out; omega
       have HFD : Hid (firstAt dl (nameAt dl d) = some d) := hI (by rw [HNM.out]; exact HD1.out)
       obtain ⟨u, hu⟩ : ∃ u, u = (UL dl dl.length (nameAt dl d))[j] := ⟨_, rfl⟩
       obtain ⟨hkey, hgo, hgo0⟩ := HP6.out.del HFD.out hju hu
       have hud := (UL_def (show u ∈ UL dl dl.length (nameAt dl d) by rw [hu]; exact List.getElem_mem hju)).1
       have hul : u <= 1000000000000000 := by
         have h1 := isDef_lt hud; have h2 := HN.out; have h3 : dl.length = l.length := by rw [HDL.out]; simp
         omega
       have hDu : s6.D u := (HP6.out.D u).2 hud
       have hSu : s6.S u := (HP6.out.S u).2 hud
       have hrow := HO6.out.rowV_own v.name
       have e5 : rowV s6 v.name = .slice ra m5 rc := by unfold rowV; rw [HP6.out.uv]; exact HUV2.out
       rw [e5] at hrow
       have hrl : (s6.U v.name).length = m5 := by rw [HP6.out.U, <- HNM.out, <- HM5.out]
       rw [hrl] at hrow
       obtain ⟨g5, hg5, cj⟩ : ∃ g5, ra = some ⟨g5, 0, none⟩ /\ wr.cell? ⟨g5, j, none⟩ = some (.int .i64 u) := by
        rcases hrow.2 with ⟨_, h0⟩ | ⟨g, cap, cur, hv, _⟩
        ·omega
        simp only [Value.slice.injEq] at hv
        obtain ⟨rfl, _, rfl⟩ := hv
        refine ⟨g, rfl, ?_⟩
        have hcj := hrow.cellAt j (by omega)
        rw [hcj, HP6.out.U, <- HNM.out]
        simp [natVs, hu, hju]
       subst hg5
       have HGM := hI (show (intF (missF s6.D s6.mb) (.int .i64 (u : Int))).getD (.map none) = .map (some (s6.mb u)) by rw [intF_at]; simp [missF, hDu])
       have HKEY := hI hkey
       have HGO := hI hgo
       have HGO0 := hI hgo0
       have HNMN : Hid (nameAt dl d = v.name) := HNM
       clear hkey hgo hgo0 hrow e5 hrl hu
       go_wp2_with (first
        | (at_lookup; refine wpList_map_get _ rfl _ _ 172 rfl 3 174 keyedInt uMapIM (zeroSet _) bm t _ rfl HO6.out.hm _ _ rfl (keyInt hul) trivial ?_; rw [HGM.out])
        | (at_delete; refine wpList_map_del _ rfl _ _ 174 9 rfl 176 keyedStr uSet (s6.mb u) t _ rfl (HO6.out.sets u hSu).2 _ _ rfl (keyStr hns) trivial ?_))
       intro w7 hm7 hc7
       have hSr := (HO6.out.sets u hSu).1
       have HDEL := hI (show MapAt w7 9 (s6.mb u) t (strF (memF fun y => s6.M u y /\ y ≠ nameAt dl d)) by
        refine hm7.congr fun x => ?_
        rw [HNMN.out]
        exact memF_del _ _ x)
       have HO7 := hI (HO6.out.setM hSu hc7 HDEL.out)
       have HEM := hI (show (∀ y, ¬ (s6.M u y /\ y ≠ nameAt dl d)) ↔ (missL dl (s.O ++ [d]) u).isEmpty = true by
        rw [List.isEmpty_iff, List.eq_nil_iff_forall_not_mem]
        exact forall_congr' fun y => not_congr (HKEY.out y))
       have HGM7 := hI (show (intF (missF (s6.setM u fun y => s6.M u y /\ y ≠ nameAt dl d).D (s6.setM u fun y => s6.M u y /\ y ≠ nameAt dl d).mb) (.int .i64 (u : Int))).getD (.map none) = .map (some (s6.mb u)) from HGM.out)
       clear hm7 hc7 hSr cj
       go_wp2_with (first
        | (at_lookup; refine wpList_map_get _ rfl _ _ 172 rfl 3 174 keyedInt uMapIM (zeroSet _) bm t _ rfl HO7.out.hm _ _ rfl (keyInt hul) trivial ?_; rw [HGM7.out])
        | (at_len; refine wpList_map_len _ rfl _ 174 rfl 9 176 keyedStr uSet (s6.mb u) t _ rfl HDEL.out ?_))
       intro sz hsz0 hsz1
       rw [set_empty, HEM.out] at hsz1
       clear HEM HGM HGM7 HKEY
       by_cases hz : sz = 0
       ·have tz : ((sz : Int) == 0) = true := by simp; omega
        have HGOO := hI (HGO0.out (hsz1.1 hz))
        clear hsz1 hz HGO HGO0
        have hwb7 := HO7.out.ext.size
        have hRl : s6.R.length <= 100000 := by
         rw [HP6.out.R.length_eq]
         simp only [natI, List.length_map, List.length_append]
         have h1 := List.length_filter_le (fun u => (missL dl (s.O ++ [d]) u).isEmpty) ((UL dl dl.length (nameAt dl d)).take j)
         have h2 := HRR.out.length_eq
         simp only [List.length_take, List.length_cons] at h1 h2
         omega
        go_wp2_with fail
        refine (hpush_calls w.heap.size bp s6.pv s6.R u w7 HO7.out.hp hwb7 (by omega)).mono ?_
        rintro r w8 ⟨rfl, pv8, R8, hR8, hp8, hc8, hw8⟩
        have HO8 := hI (HO7.out.setP hp8 hc8 hw8)
        have HP8 := hI (HGOO.out pv8 R8 hR8)
        clear hR8 hp8 hc8 hw8
        go_wp2_with fail
        go_roundw
        case rel => exact ⟨j + 1, _, by omega, by go_num, HO8.out, HP8.out⟩
        case measure => simp [intOf]; omega
       have tz : ((sz : Int) == 0) = false := by simp; omega
       have HGOO := hI (HGO.out (by
        cases hb : (missL dl (s.O ++ [d]) u).isEmpty
        ·rfl
        exact absurd (hsz1.2 hb) hz))
       clear hsz1 hz HGO HGO0
       go_wp2_with fail
       go_roundw
       case rel => exact ⟨j + 1, _, by omega, by go_num, HO7.out, HGOO.out⟩
       case measure => simp [intOf]; omega
      have tj : decide ((j : Int) < (m5 : Int)) = false := by simp; omega
      have HPF := hI (show Ph4 dl s6 by
       have := HP6.out
       rw [show j = (UL dl dl.length (nameAt dl d)).length by rw [<- HM5.out]; omega] at this
       exact this.finish (by rw [HNM.out]; exact HD1.out) HINV.out HRR.out)
      go_wp2_with fail
      go_roundg (countOf dl - (s.O.length + 1))
      case rel => exact ⟨s6, by rw [HP6.out.O]; simp, HO6.out, HP6.out.vo.symm, HPF.out⟩
      case measure =>
       have h1 := HM.out
       have h2 := HINV.out.le
       have h3 := HRR.out.length_eq
       simp only [List.length_append, List.length_cons] at h2 h3
       omega
    have td : ((d : Int) != (i : Int)) = true := by simp; omega
    have HPN := hI (HP.out.other (pv := pv1) (vo := .slice a2 (s.O.length + 1) c2) HINV.out HRR.out HR1.out (fun x hx => hdi (by
     have h1 := (first_def hx).2
     rw [HNA.out] at h1
     rw [<- h1, HD1.out] at hx
     exact Option.some.inj hx)))
    go_wp2_with (at_lookup; refine wpList_map_get _ rfl _ _ 136 rfl 9 3 keyedStr uMapSI (zeroInt _) bf t _ rfl HO3.out.hf _ _ rfl (keyStr hns) trivial ?_; rw [HF.out])
    go_roundg (countOf dl - (s.O.length + 1))
    case rel => exact ⟨_, by show _ = countOf dl - (s.O ++ [i]).length; simp, HO3.out, rfl, HPN.out⟩
    case measure =>
     have h1 := HM.out
     have h2 := HINV.out.le
     have h3 := HRR.out.length_eq
     simp only [List.length_append, List.length_cons] at h2 h3
     omega
open Go.RowKit
theorem fits_plain {op lo hi : Int} {s : BA} (h : s.size <= 1000000000000000) : (Ex.mk op s [] lo hi []).fits := by
 unfold Ex.fits
 exact ⟨h, by simp, by unfold fitsAll; trivial⟩
theorem blk10 {w : World} {b : Nat} {v0 v1 v2 v3 v4 v5 v6 v7 v8 v9 : Value} {t : TypeId} (h : w.heap[b]? = some (.cells #[v0, v1, v2, v3, v4, v5, v6, v7, v8, v9] t (0, 0))) :
  w.cell? ⟨b, 0, none⟩ = some v0 /\ w.cell? ⟨b, 1, none⟩ = some v1 /\ w.cell? ⟨b, 2, none⟩ = some v2 /\ w.cell? ⟨b, 3, none⟩ = some v3 /\ w.cell? ⟨b, 4, none⟩ = some v4 /\ w.cell? ⟨b, 5, none⟩ = some v5 /\ w.cell? ⟨b, 6, none⟩ = some v6 /\ w.cell? ⟨b, 7, none⟩ = some v7 /\ w.cell? ⟨b, 8, none⟩ = some v8 /\ w.cell? ⟨b, 9, none⟩ = some v9 /\ (∀ j, w.frozen? ⟨b, j, none⟩ = false) :=
 ⟨blk_cell h 0, blk_cell h 1, blk_cell h 2, blk_cell h 3, blk_cell h 4, blk_cell h 5, blk_cell h 6, blk_cell h 7, blk_cell h 8, blk_cell h 9, fun j => blk_free h j⟩
theorem elemCla : ElemT 25 48 (.agg #[.int .i64 0, .string ⟨#[]⟩, .int .i64 0, .string ⟨#[]⟩, .slice none 0 0, .int .i64 0, .int .i64 0, .slice none 0 0, .slice none 0 0, .int .i64 0]) 10 144 := ⟨by kernel_rfl, by kernel_rfl, rfl, by decide⟩
def ClasR (w : World) (l : List Cla) (vs : List ClV) : Prop := l.length = vs.length /\ ∀ i (h1 : i < l.length) (h2 : i < vs.length), IsCla w l[i] vs[i]
theorem ClasR.mono {w w' : World} {l : List Cla} {vs : List ClV} (h : ClasR w l vs) (hs : Sub w w') : ClasR w' l vs := ⟨h.1, fun i h1 h2 => (h.2 i h1 h2).mono hs⟩
theorem ClasR.snoc {w : World} {l : List Cla} {vs : List ClV} {c : Cla} {v : ClV} (h : ClasR w l vs) (hc : IsCla w c v) : ClasR w (l ++ [c]) (vs ++ [v]) := by
 refine ⟨by simp [h.1], fun i h1 h2 => ?_⟩
 by_cases hi : i < l.length
 ·have hi2 : i < vs.length := by rw [<- h.1]; exact hi
  simp only [List.getElem_append_left hi, List.getElem_append_left hi2]
  exact h.2 i hi hi2
 have e1 : i = l.length := by simp at h1; omega
 subst e1
 simp only [List.getElem_append_right (Nat.le_refl _), List.getElem_append_right (show vs.length <= l.length by rw [h.1]; exact Nat.le_refl _), Nat.sub_self, List.getElem_cons_zero]
 simpa [h.1] using hc
theorem clas_owns {w : World} {M : ZN} {base : Nat} {v : Value} {l : List Cla} {vs : List ClV} (h : w.ownsRow base 48 10 v l.length (vs.flatMap ClV.cells)) (hM : ∀ k, v.ownBlock = some k -> k ∉ M) (hR : ClasR (mask w M) l vs) :
  ∃ a c, v = .slice a l.length c /\ IsClas (mask w M) l a l.length c := by
 rw [hR.1] at h
 obtain ⟨a, c, rfl, hr⟩ := IsRows.of_owns ClV.len h
 refine ⟨a, c, by rw [hR.1], vs, ?_, hR.1, hR.2⟩
 refine ⟨hR.1, by rw [hR.1]; exact hr.2.1, hr.2.2.1, fun i hi => ?_⟩
 obtain ⟨b, off, e, hc⟩ := hr.2.2.2 i hi
 subst e
 refine ⟨b, off, rfl, fun j hj => ?_⟩
 rw [mask_cell, if_neg (hM b rfl)]
 exact hc j hj
end Go.Proofs.YtefjomofjejklaaGreatDoor
