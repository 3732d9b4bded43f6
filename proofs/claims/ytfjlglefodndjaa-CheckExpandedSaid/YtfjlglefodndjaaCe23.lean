/-
  Texts of the claim, joined: Before, Cxpd.
-/
import Derived.Test.YtfjlglefodndjaaCe19
import Derived.Test.YtfjlglefodndjaaCe13
import Derived.Test.YtfjlglefodndjaaCe21
import Derived.Test.YtfjlglefodndjaaCe22
namespace Go.Proofs.Ytfjlglefodndjaa
open Go.RowKit

/-- What is seen after p of the order. -/
def seenL (o : List Nat) (n p : Nat) : List Bool := (List.range n).map fun j => decide (j ∈ o.take p)
theorem seenL_zero (o : List Nat) (n : Nat) : seenL o n 0 = List.replicate n false := by
  unfold seenL
  simp [List.map_const']
theorem seenL_len (o : List Nat) (n p : Nat) : (seenL o n p).length = n := by simp [seenL]
theorem seenL_at {o : List Nat} {n p j : Nat} (hj : j < n) : (seenL o n p)[j]'(by rw [seenL_len]; exact hj) = decide (j ∈ o.take p) := by simp [seenL]
theorem seenL_succ {o : List Nat} {n p : Nat} (hp : p < o.length) : (seenL o n p).set o[p] true = seenL o n (p + 1) := by
  apply List.ext_getElem
  · simp [seenL]
  · intro j h1 h2
    simp only [List.getElem_set]
    have hj : j < n := by simpa [seenL] using h2
    have e1 : (seenL o n (p + 1))[j] = decide (j ∈ o.take (p + 1)) := seenL_at hj
    have e2 : (seenL o n p)[j]'(by rw [seenL_len]; exact hj) = decide (j ∈ o.take p) := seenL_at hj
    rw [e1, List.take_succ_eq_append_getElem hp]
    by_cases e : o[p] = j
    · rw [if_pos e]
      symm
      rw [decide_eq_true_eq, ← e]
      exact List.mem_append.2 (Or.inr (by simp))
    · rw [if_neg e, e2]
      congr 1
      simp only [List.mem_append, List.mem_singleton]
      exact propext ⟨Or.inl, fun h => h.resolve_right fun h => e h.symm⟩
theorem cond_sizes {e : Ex} (h : CondOk e) : e.size ≤ 4 ∧ e.fits := by
  rcases h with rfl | ⟨s, ⟨b, rfl⟩, rfl⟩ | ⟨ns, h1, h2, rfl⟩
  · exact ⟨by unfold exTrue; rw [size_plain]; omega, fits_plain (by show 0 ≤ _; omega)⟩
  · exact ⟨by unfold exNm; rw [size_plain]; omega, fits_plain (by rw [size1]; omega)⟩
  · have hs : sizes (ns.map exNm) = ns.length := by
      clear h1 h2
      induction ns with
      | nil => simp [sizes]
      | cons x r ih => simp only [List.map_cons, sizes, ih]; rw [exNm, size_plain]; simp; omega
    refine ⟨by simp [Ex.size, hs]; omega, ?_⟩
    unfold Ex.fits
    refine ⟨by show 0 ≤ _; omega, by simp, ?_⟩
    clear h2 hs
    induction ns with
    | nil => simp only [List.map_nil]; unfold fitsAll; trivial
    | cons x r ih =>
      simp only [List.map_cons]
      unfold fitsAll
      obtain ⟨b, rfl⟩ := h1 x (by simp)
      exact ⟨fits_plain (by rw [size1]; omega), ih fun s hs => h1 s (by simp [hs])⟩
theorem defs_sizes {l : List Cla} (h : ∀ x ∈ l, DfnOk x) : ∀ x ∈ l.map Cla.cl, x.cond.size ≤ 100000 ∧ x.cond.fits ∧ x.name.size ≤ 1000000000000000 := by
  intro x hx
  obtain ⟨c, hc, rfl⟩ := List.mem_map.1 hx
  obtain ⟨_, ⟨b, hb⟩, h3, _⟩ := h c hc
  obtain ⟨s1, s2⟩ := cond_sizes h3
  refine ⟨by simp only [Cla.cl]; omega, s2, ?_⟩
  simp only [Cla.cl]
  rw [hb, size1]; omega
def B1 (w2 : World) (bs n : Nat) (o : List Nat) (i : Value) (wr : World) : Prop := ∃ p : Nat, p ≤ o.length ∧ i = .int .i64 p ∧ SeenAt bs (seenL o n p) wr ∧ Ext w2 wr
def B2 (w5 : World) (m : Nat) (i : Value) (wr : World) : Prop := ∃ k : Nat, k ≤ m ∧ i = .int .i64 k ∧ Ext w5 wr
def B3 (w5 : World) (l : List Cla) (x : ByteArray) (n : Nat) (i : Value) (wr : World) : Prop := ∃ j : Nat, j ≤ n ∧ i = .int .i64 j ∧ (∀ q (h : q < l.length), q < j → ¬ (l[q].kind = 1 ∧ l[q].name = x)) ∧ Ext w5 wr
theorem first_is {l : List Cla} {dl : List Dfn} (hdl : dl = (l.map Cla.cl).map Cl.dfn) {j : Nat} (hj : j < l.length) {x : ByteArray} (h1 : l[j].kind = 1 ∧ l[j].name = x) (h2 : ∀ q (h : q < l.length), q < j → ¬ (l[q].kind = 1 ∧ l[q].name = x)) : firstAt dl x = some j := by
  unfold firstAt
  rw [List.findIdx?_eq_some_iff_getElem]
  subst hdl
  refine ⟨by simpa using hj, ?_, fun q hq => ?_⟩
  · simp [Cla.cl, Cl.dfn, h1.1, h1.2]
  · have := h2 q (by omega) hq
    simp only [List.getElem_map, Cla.cl, Cl.dfn, Bool.not_eq_true, Bool.and_eq_false_iff, beq_eq_false_iff_ne, ne_eq, decide_eq_false_iff_not]
    by_cases e : l[q].kind = 1
    · exact Or.inr fun h => this ⟨e, h⟩
    · exact Or.inl e
theorem isDef_cla {l : List Cla} {dl : List Dfn} (hdl : dl = (l.map Cla.cl).map Cl.dfn) {j : Nat} (hj : j < l.length) : isDef dl j = (l[j].kind == 1) := by
  subst hdl
  unfold isDef
  simp [hj, Cla.cl, Cl.dfn]
theorem uses_cla {l : List Cla} {dl : List Dfn} (hdl : dl = (l.map Cla.cl).map Cl.dfn) {j : Nat} (hj : j < l.length) : usesAt dl j = refNames (namesE l[j].cond) := by
  subst hdl
  unfold usesAt
  simp [hj, Cla.cl, Cl.dfn]
set_option maxRecDepth 100000 in
set_option maxHeartbeats 4000000 in
theorem before_calls (la : Option Addr) (ln lc : Nat) (w : World) (h : IntsAt w la ln) (hl : ln ≤ 1000000000000000) : Calls Try.prog 3 #[.slice la ln lc] w (GivesE (.bool true) w) := by
  have HI := Lib.hid h
  clear h
  go_enter Try.func3, Try.ntmps3
  go_wp2_with fail
  refine (defined_calls la ln lc w HI.out hl).mono ?_
  rintro r w1 ⟨l, a, n, c, rfl, hcl, hok, hl9, hx1⟩
  have HCL := Lib.hid hcl
  have HN := Lib.hid hcl.len
  have HOK := Lib.hid hok
  have HX1 := Lib.hid hx1
  have hn9 : n ≤ 9 := by have := hcl.len; omega
  clear hcl hok hx1 HI hl9
  go_wp2_with fail
  refine (order_calls (l.map Cla.cl) a n c w1 HCL.out.cls (by omega) (defs_sizes HOK.out)).mono ?_
  obtain ⟨dl, hdl⟩ : ∃ dl, dl = (l.map Cla.cl).map Cl.dfn := ⟨_, rfl⟩
  rw [← hdl]
  have HDL := Lib.hid hdl
  clear hdl
  rintro r w2 ⟨hx2, ⟨o, oa, oc, ht, rfl, hoi⟩ | ⟨o, h1, h2, rfl⟩⟩
  · have HT := Lib.hid ht
    have HX2 := Lib.hid hx2
    have HOI := Lib.hid hoi
    have hol : o.length ≤ 9 := by
      have h1 := nodup_le o (List.range dl.length) ht.nodup fun x hx => List.mem_range.2 (isDef_lt ((ht.all x).1 hx))
      have h2 := HN.out
      have h3 : dl.length = l.length := by rw [HDL.out]; simp
      simp at h1
      omega
    have HCL2 := Lib.hid (HCL.out.ext hx2)
    obtain ⟨i0, hi0, hz0, hz1, hz2⟩ := info_parts elemBools.info
    clear ht hx2 hoi HCL
    go_wp2_with (at_make; refine wpList_make_full _ rfl _ _ 29 rfl w2.heap.size 4 i0 (.bool false) 1 elemBools.ht hi0 hz0 hz1 _ _ _ _ n rfl rfl rfl rfl ?c1 ?c2 ?c3 ?_)
    case c1 => rw [hz2]; omega
    case c2 => unfold maxLen; omega
    case c3 => omega
    intro w3 hown3 hgrow3
    obtain ⟨bs, hbs⟩ : ∃ bs, bs = w2.heap.size := ⟨_, rfl⟩
    rw [← hbs] at hown3 ⊢
    have HS3 := Lib.hid (SeenAt.of_owns hown3)
    have HX3 := Lib.hid (show Ext w2 w3 from ⟨hgrow3.os, hgrow3.tape, hgrow3.output, hgrow3.size, fun k hk => hgrow3.block k hk (by simp)⟩)
    have HBS := Lib.hid hbs
    clear hown3 hgrow3 hbs
    go_wp2_with fail
    have HXW := Lib.hid (HX1.out.trans HX2.out)
    go_loopw [7] (B1 w2 bs n o) (fun i _ => o.length - (intOf i).toNat)
    case atStart => exact ⟨0, by omega, rfl, by rw [seenL_zero]; exact HS3.out, HX3.out⟩
    case round =>
      obtain ⟨p, hp, rfl, hseen, hx⟩ := hrel
      obtain ⟨wo, rfl⟩ : ∃ wo : World, wo = wr := ⟨_, rfl⟩
      have HSE := Lib.hid hseen
      have HX := Lib.hid hx
      have hbslt := hseen.lt
      clear hseen hx HS3 HX3
      by_cases hpo : p < o.length
      · have t1 : decide ((p : Int) < (o.length : Int)) = true := decide_eq_true (by omega)
        have hpi : p < (ints o).length := by simpa [ints] using hpo
        obtain ⟨ob, ooff, rfl, co⟩ := (HOI.out.mono HX.out.sub).2.2.2 p hpi
        obtain ⟨d, hd⟩ : ∃ d, d = o[p] := ⟨_, rfl⟩
        have e1 : (ints o)[p] = (d : Int) := by simp [ints, hd]
        rw [e1] at co
        have hdd := (HT.out.all d).1 (by rw [hd]; exact List.getElem_mem hpo)
        have hdn : d < l.length := by have := isDef_lt hdd; rw [HDL.out] at this; simpa using this
        have hdn' : d < n := by have := HN.out; omega
        obtain ⟨cb, coff, v, rfl, hcla, hrow⟩ := (HCL2.out.ext HX.out).at hdn
        obtain ⟨c0, c1, c2, c3, c4, c5, c6, c7, c8, c9⟩ := hrow.ten
        have hk1 : v.kind = 1 := by
          have := hdd
          rw [isDef_cla HDL.out hdn] at this
          rw [hcla.1]; simpa using this
        rw [hk1] at c0
        have hLn : d < (seenL o n p).length := by rw [seenL_len]; exact hdn'
        have hcs := HSE.out.cell hLn
        have hns : (seenL o n p)[d] = false := by
          rw [seenL_at hdn', decide_eq_false_iff_not, hd]
          exact not_take HT.out.nodup hpo
        rw [hns] at hcs
        have td0 : decide ((d : Int) < 0) = false := decide_eq_false (by omega)
        have td1 : decide (n ≤ d) = false := decide_eq_false (by omega)
        have HEX := Lib.hid hcla.2.2.1
        have hpo2 : (o[p]? = some d) := by rw [hd]; exact List.getElem?_eq_getElem hpo
        have HAF := Lib.hid (fun s hs q hq => HT.out.after p d hpo2 s hs q hq)
        have HDD := Lib.hid hd
        have HUS := Lib.hid (uses_cla HDL.out hdn)
        have hszc := (cond_sizes (HOK.out _ (List.getElem_mem hdn)).2.2.1)
        have hsz1 := hszc.1
        clear e1 hcla hrow hk1 hns hd hszc
        go_wp2_with fail
        obtain ⟨nm, hnm⟩ : ∃ nm, nm = refNames (namesE l[d].cond) := ⟨_, rfl⟩
        refine (rnames_calls l[d].cond _ _ (by omega) HEX.out).mono ?_
        rw [← hnm]
        rw [← hnm] at HUS
        rintro r w5 ⟨na, nc, rfl, hst, hx5⟩
        have HST := Lib.hid hst
        have HX5 := Lib.hid hx5
        have hnml : nm.length ≤ 4 := by
          rw [hnm]
          exact Nat.le_trans (refNames_len2 _) (Nat.le_trans (namesE_len _) hsz1)
        clear hst hx5 hnm c0 c1 c2 c3 c4 c5 c6 c7 c8 c9 hcs co HEX
        go_wp2_with fail
        go_loopw [9, 10] (fun i _ wr => B2 w5 nm.length i wr) (fun i _ _ => nm.length - (intOf i).toNat)
        case atStart => exact ⟨0, by omega, rfl, Ext.refl _⟩
        case round =>
          obtain ⟨k, hk, rfl, hxk⟩ := hrel
          obtain ⟨wk, rfl⟩ : ∃ wk : World, wk = wr := ⟨_, rfl⟩
          have HXK := Lib.hid hxk
          clear hxk
          by_cases hkm : k < nm.length
          · have t2 : decide ((k : Int) < (nm.length : Int)) = true := decide_eq_true (by omega)
            have HMEM := Lib.hid (List.getElem_mem hkm)
            go_wp2_with fail
            go_loopw [10] (B3 wk l nm[k] n) (fun i _ => n - (intOf i).toNat)
            case atStart => exact ⟨0, by omega, rfl, fun q _ h => by omega, Ext.refl _⟩
            case round =>
              obtain ⟨j, hj, rfl, hnot, hxj⟩ := hrel
              have HNOT := Lib.hid hnot
              have HXJ := Lib.hid hxj
              clear hnot hxj
              by_cases hjn : j < n
              · have t3 : decide ((j : Int) < (n : Int)) = true := decide_eq_true (by omega)
                have hjl : j < l.length := by have := HN.out; omega
                have hXall := (HX.out.trans HX5.out).trans (HXK.out.trans HXJ.out)
                obtain ⟨cb', coff', v', e', hcla, hrow⟩ := (HCL2.out.ext hXall).at hjl
                simp only [Option.some.injEq, Addr.mk.injEq, and_true] at e'
                obtain ⟨rfl, rfl⟩ := e'
                obtain ⟨c0, c1, -, -, -, -, -, -, -, -⟩ := hrow.ten
                have hq1 := hcla.1
                have hq2 := hcla.2.1
                rw [hq1] at c0
                rw [hq2] at c1
                obtain ⟨nb, noff, rfl, cn⟩ := ((HST.out.ext HXK.out).ext HXJ.out).2.2.2 k hkm
                have ti0 : (0 : Int) ≤ (j : Int) := by omega
                have ti1 : (j : Int) < (n : Int) := by omega
                have tk0 : (0 : Int) ≤ (k : Int) := by omega
                have tk1 : (k : Int) < (nm.length : Int) := by omega
                have hLj : j < (seenL o n p).length := by rw [seenL_len]; exact hjn
                have hcs := (HSE.out.ext (HX5.out.trans (HXK.out.trans HXJ.out))).cell hLj
                cases hnq : (l[j].name.toList == nm[k].toList)
                · have HNQ := Lib.hid (show ¬ (l[j].kind = 1 ∧ l[j].name = nm[k]) from fun h => by rw [h.2] at hnq; simp at hnq)
                  clear hcla hrow hq1 hq2 hXall
                  go_wp2_with fail
                  go_quiet (fail)
                  go_wp2_with fail
                  go_roundw
                  case rel =>
                    refine ⟨j + 1, by omega, by go_num, fun q hq hqj => ?_, HXJ.out.drewN _⟩
                    by_cases e : q = j
                    · subst e; exact HNQ.out
                    · exact HNOT.out q hq (by omega)
                  case measure => simp [intOf]; omega
                · have hnm2 := toList_inj (beq_iff_eq.1 hnq)
                  cases hkq : (l[j].kind == 1)
                  · have HNQ := Lib.hid (show ¬ (l[j].kind = 1 ∧ l[j].name = nm[k]) from fun h => by rw [h.1] at hkq; simp at hkq)
                    clear hcla hrow hq1 hq2 hnm2 hXall
                    go_wp2_with fail
                    go_quiet (fail)
                    go_wp2_with fail
                    go_roundw
                    case rel =>
                      refine ⟨j + 1, by omega, by go_num, fun q hq hqj => ?_, HXJ.out.drewN _⟩
                      by_cases e : q = j
                      · subst e; exact HNQ.out
                      · exact HNOT.out q hq (by omega)
                    case measure => simp [intOf]; omega
                  · have hseen1 : (seenL o n p)[j] = true := by
                      rw [seenL_at hjn, decide_eq_true_eq]
                      refine HAF.out nm[k] (by rw [HUS.out]; exact HMEM.out) j (first_is HDL.out hjl ⟨by simpa using hkq, hnm2⟩ HNOT.out)
                    rw [hseen1] at hcs
                    clear hcla hrow hq1 hq2 hnm2 hseen1 hXall
                    go_wp2_with fail
                    go_quiet (fail)
                    go_wp2_with fail
                    go_roundw
                    case rel => exact ⟨k + 1, by omega, by go_num, HXK.out.trans (HXJ.out.drewN _)⟩
                    case measure => simp [intOf]; omega
              · have t3 : decide ((j : Int) < (n : Int)) = false := decide_eq_false (by omega)
                go_wp2_with fail
                go_roundw
                case rel => exact ⟨k + 1, by omega, by go_num, HXK.out.trans HXJ.out⟩
                case measure => simp [intOf]; omega
          · have t2 : decide ((k : Int) < (nm.length : Int)) = false := decide_eq_false (by omega)
            obtain ⟨ob', ooff', e', co⟩ := (HOI.out.mono ((HX.out.trans HX5.out).trans HXK.out).sub).2.2.2 p hpi
            simp only [Option.some.injEq, Addr.mk.injEq, and_true] at e'
            obtain ⟨rfl, rfl⟩ := e'
            have e1 : (ints o)[p] = (d : Int) := by simp [ints, HDD.out]
            rw [e1] at co
            have HSK := Lib.hid (HSE.out.ext (HX5.out.trans HXK.out))
            have hcs := HSK.out.cell hLn
            have hfs := HSK.out.free d
            have HSN := Lib.hid (HSK.out.set d true)
            have e2 : (seenL o n p).set d true = seenL o n (p + 1) := by rw [HDD.out]; exact seenL_succ hpo
            rw [e2] at HSN
            have tn0 : (0 : Int) ≤ (d : Int) := by omega
            have tn1 : (d : Int) < (n : Int) := by omega
            have hbl := HSK.out.lt
            clear e1 e2
            go_wp2_with fail
            go_roundw
            case rel => exact ⟨p + 1, by omega, by go_num, HSN.out, ((HX.out.trans HX5.out).trans HXK.out).setAbove (by simp; rw [HBS.out]; exact Nat.le_refl _) _⟩
            case measure => simp [intOf]; omega
      · have t1 : decide ((p : Int) < (o.length : Int)) = false := decide_eq_false (by omega)
        obtain rfl : p = o.length := by omega
        go_wp2_with fail
        go_loopw [11] (fun i wr => ∃ j : Nat, j ≤ n ∧ i = .int .i64 j ∧ Ext wo wr) (fun i _ => n - (intOf i).toNat)
        case atStart => exact ⟨0, by omega, rfl, Ext.refl _⟩
        case round =>
          obtain ⟨j, hj, rfl, hxj⟩ := hrel
          have HXJ := Lib.hid hxj
          clear hxj
          by_cases hjn : j < n
          · have t3 : decide ((j : Int) < (n : Int)) = true := decide_eq_true (by omega)
            have hjl : j < l.length := by have := HN.out; omega
            obtain ⟨cb', coff', v', rfl, hcla, hrow⟩ := (HCL2.out.ext (HX.out.trans HXJ.out)).at hjl
            obtain ⟨c0, c1, -, -, -, -, -, -, -, -⟩ := hrow.ten
            have hq1 := hcla.1
            rw [hq1] at c0
            have ti0 : (0 : Int) ≤ (j : Int) := by omega
            have ti1 : (j : Int) < (n : Int) := by omega
            have hLj : j < (seenL o n o.length).length := by rw [seenL_len]; exact hjn
            have hcs := (HSE.out.ext HXJ.out).cell hLj
            cases hkq : (l[j].kind == 1)
            · clear hcla hrow hq1 c1
              go_wp2_with fail
              go_roundw
              case rel => exact ⟨j + 1, by omega, by go_num, HXJ.out⟩
              case measure => simp [intOf]; omega
            · have hseen1 : (seenL o n o.length)[j] = true := by
                rw [seenL_at hjn, decide_eq_true_eq, List.take_length]
                exact (HT.out.all j).2 (by rw [isDef_cla HDL.out hjl]; exact hkq)
              rw [hseen1] at hcs
              clear hcla hrow hq1 c1 hseen1
              go_wp2_with fail
              go_roundw
              case rel => exact ⟨j + 1, by omega, by go_num, HXJ.out⟩
              case measure => simp [intOf]; omega
          · have t3 : decide ((j : Int) < (n : Int)) = false := decide_eq_false (by omega)
            go_wp2_with fail
            refine (awake10_calls _).mono ?_
            rintro r w9 ⟨rfl, hx9⟩
            have HX9 := Lib.hid (HXW.out.trans ((HX.out.trans HXJ.out).trans hx9))
            clear hx9
            go_wp2_with fail
            go_ret
            exact ⟨rfl, HX9.out⟩
  · have HX := Lib.hid (HX1.out.trans hx2)
    clear hx2 h1 h2
    go_wp2_with fail
    refine (awake10_calls _).mono ?_
    rintro r w3 ⟨rfl, hx3⟩
    have HX3 := Lib.hid (HX.out.trans hx3)
    clear hx3
    go_wp2_with fail
    go_ret
    exact ⟨rfl, HX3.out⟩
end Go.Proofs.Ytfjlglefodndjaa

namespace Go.Proofs.Ytfjlglefodndjaa
open Go.RowKit

/-! The law CheckExpanded: the walk. -/
def GrGV (wr : World) (_ : List Nat) (_ : Nat → Value) (W : World) : Prop := Ext wr W
--BEGIN DEF X10
def cxR (la : Option Addr) (ln lc : Nat) (ma : Option Addr) (mn mc : Nat) (xv : ExV) (X1 X2 : Int) : Nat → Value → World → Prop
  | 0, u, _ => u = .slice la ln lc
  | 1, u, _ => u = .agg #[.int .i64 3, .string ⟨#[97]⟩, .slice none 0 0, .int .i64 0, .int .i64 0, .slice none 0 0]
  | 2, u, _ => u = .int .i64 X1
  | 3, u, _ => u = .slice la ln lc
  | 4, u, _ => u = .agg #[.int .i64 3, .string ⟨#[97]⟩, .slice none 0 0, .int .i64 0, .int .i64 0, .slice none 0 0]
  | 5, u, _ => u = .int .i64 X1
  | 6, u, _ => u = .bool true
  | 7, u, _ => u = .bool true
  | 8, u, _ => u = .slice ma mn mc
  | 9, u, _ => u = .agg #[.int .i64 xv.op, .string xv.name, .slice xv.aw xv.nw xv.cw, .int .i64 xv.lo, .int .i64 xv.hi, .slice xv.aa xv.na xv.ca]
  | 10, u, _ => u = .int .i64 X2
  | 11, u, _ => u = .slice ma mn mc
  | 12, u, _ => u = .agg #[.int .i64 xv.op, .string xv.name, .slice xv.aw xv.nw xv.cw, .int .i64 xv.lo, .int .i64 xv.hi, .slice xv.aa xv.na xv.ca]
  | 13, u, _ => u = .int .i64 X2
  | 14, u, _ => u = .bool true
  | 15, u, _ => u = .bool true
  | 16, u, _ => u = .bool true
  | 17, u, _ => u = .bool true
  | 18, u, _ => u = .bool true
  | _, u, _ => u = .bool true
--END DEF X10
def CxL (w3 : World) (m : List Cla) (mn : Nat) (v i : Value) (wr : World) : Prop := ∃ k : Nat, i = .int .i64 ((k : Nat) : Int) ∧ k ≤ mn ∧ wr.ownsRow w3.heap.size 9 1 v k (((m.take k).map (·.name)).flatMap strCells) ∧ Ext w3 wr
theorem bare_cond {e : Ex} (h : CondOk e) : bareE e = true := by
  rcases h with rfl | ⟨s, _, rfl⟩ | ⟨ns, _, _, rfl⟩
  · unfold exTrue bareE; simp [bareL]
  · unfold exNm bareE; simp [bareL]
  · unfold bareE
    rw [bareL_of _ fun x hx => by obtain ⟨s, _, rfl⟩ := List.mem_map.1 hx; unfold exNm bareE; simp [bareL]]
    simp
set_option maxRecDepth 100000 in
set_option maxHeartbeats 8000000 in
theorem cxpd_calls (da : Option Addr) (dn dc : Nat) (oa : Option Addr) (on oc : Nat) (w : World) (h1 : IntsAt w da dn) (h2 : IntsAt w oa on) (hd1 : dn ≤ 1000000000000000) (hd2 : on ≤ 1000000000000000) :
    Calls Try.prog 4 #[.slice da dn dc, .slice oa on oc] w (GivesE (.bool true) w) := by
  have HI1 := Lib.hid h1
  have HI2 := Lib.hid h2
  clear h1 h2
  go_enter Try.func4, Try.ntmps4
  go_wp2_with fail
  refine (defined_calls da dn dc w HI1.out hd1).mono ?_
  rintro r w1 ⟨l, la, ln, lc, rfl, hcl, hok, hl9, hx1⟩
  have HCL := Lib.hid hcl
  have HN := Lib.hid hcl.len
  have HOK := Lib.hid hok
  have HX1 := Lib.hid hx1
  have hn9 : ln ≤ 9 := by have := hcl.len; omega
  clear hcl hok hx1 HI1 hl9
  go_upto_region 3 with fail
  obtain ⟨be, hbe⟩ : ∃ be, be = w1.heap.size := ⟨_, rfl⟩
  obtain ⟨w2, hw2⟩ : ∃ w2, w2 = w1.alloc (.cells #[.int .i64 3, .string ⟨#[97]⟩, .slice none 0 0, .int .i64 0, .int .i64 0, .slice none 0 0] 33) := ⟨_, rfl⟩
  have hx2 : Ext w1 w2 := by rw [hw2]; exact (Ext.refl _).alloc _
  have HX2 := Lib.hid hx2
  have HBE := Lib.hid (show w2.heap[be]? = some (.cells #[.int .i64 3, .string ⟨#[97]⟩, .slice none 0 0, .int .i64 0, .int .i64 0, .slice none 0 0] 33 (0, 0)) by rw [hw2, hbe]; exact alloc_new w1 _)
  rw [← hw2, ← hbe]
  clear hw2 hbe hx2
  go_wp2_with fail
  refine (made10_calls oa on oc 8 (by omega) w2 (fun i hi => by obtain ⟨b, off, z, e, hc⟩ := HI2.out i hi; exact ⟨b, off, z, e, (HX1.out.trans HX2.out).cell hc⟩) hd2).mono ?_
  rintro r w3 ⟨attrs, sa, sn, sc, m, ma, mn, mc, bd, rfl, hat, hsch, hm, hgl, hm1, hm8, hdk, hx3⟩
  have HAT := Lib.hid hat
  have HSC := Lib.hid hsch
  have HM := Lib.hid hm
  have HGL := Lib.hid hgl
  have HDK := Lib.hid hdk
  have HX3 := Lib.hid hx3
  have HMN := Lib.hid hm.len
  have hmn : mn ≤ 9 := by have := hm.len; omega
  clear hat hsch hm hgl hdk hx3 hm1 hm8 HI2
  go_upto_region 4 with fail
  obtain ⟨bs, hbs⟩ : ∃ bs, bs = w3.heap.size := ⟨_, rfl⟩
  obtain ⟨w4, hw4⟩ : ∃ w4, w4 = w3.alloc (.cells #[.slice sa sn sc] 41) := ⟨_, rfl⟩
  have hx4 : Ext w3 w4 := by rw [hw4]; exact (Ext.refl _).alloc _
  have HX4 := Lib.hid hx4
  have HBS := Lib.hid (show w4.heap[bs]? = some (.cells #[.slice sa sn sc] 41 (0, 0)) by rw [hw4, hbs]; exact alloc_new w3 _)
  rw [← hw4, ← hbs]
  have hbdl := HDK.out.lt
  have HBB := Lib.hid (show bd < bs by omega)
  clear hw4 hbs hx4 hbdl
  go_wp2_with fail
  go_loopw [10, 11] (CxL w4 m mn) (fun _ i _ => mn - (intOf i).toNat)
  case atStart => exact ⟨0, rfl, by omega, World.ownsRow_nil _ _ _ _, Ext.refl _⟩
  case round =>
    obtain ⟨k, rfl, hk, hown, hx⟩ := hrel
    obtain ⟨na, nc, hv⟩ := owns_formG hown
    subst hv
    have HO := Lib.hid hown
    have HX := Lib.hid hx
    have hxs := hx.size
    clear hown hx
    by_cases hkn : k < mn
    · have t1 : decide ((k : Int) < (mn : Int)) = true := decide_eq_true (by omega)
      have hkm : k < m.length := by have := HMN.out; omega
      obtain ⟨b, off, v, rfl, hcla, hrow⟩ := (HM.out.mono ((mask_sub _ _).trans (HX4.out.trans HX.out).sub)).at hkm
      obtain ⟨c0, c1, -, -, -, -, -, -, -, -⟩ := hrow.ten
      have HNM := Lib.hid hcla.2.1
      have ti0 : (0 : Int) ≤ (k : Int) := by omega
      have ti1 : (k : Int) < (mn : Int) := by omega
      clear hcla hrow
      go_wp2_with (at_builtin; refine wpList_append_at elemStr rfl _ _ rfl w4.heap.size _ k _ rfl HO.out _ 1 1 rfl ?f0 rfl ?f1 ?f2 ?f3 ?f4 ?_)
      case f0 => simp
      case f1 => simp [Value.oneCell']
      case f2 => unfold maxLen; omega
      case f3 => omega
      case f4 => omega
      intro v8 w8 hown8 hc8 hw8
      have HO8 := Lib.hid (show w8.ownsRow w4.heap.size 9 1 v8 (k + 1) (((m.take (k + 1)).map (·.name)).flatMap strCells) by
        rw [List.take_succ_eq_append_getElem hkm, List.map_append, List.flatMap_append]
        simp only [List.map_cons, List.map_nil, List.flatMap_cons, List.flatMap_nil, List.append_nil, strCells, ← HNM.out]
        simpa [List.map_take] using hown8)
      have HX8 := Lib.hid (hc8.ext HX.out (fun y hy => (HO.out.lt y (mem_rowOf.1 hy)).1))
      clear hown8 hc8 hw8
      go_wp2_with fail
      go_roundw
      case rel => exact ⟨k + 1, by go_num, by omega, HO8.out, HX8.out⟩
      case measure => simp [intOf]; omega
    · have t1 : decide ((k : Int) < (mn : Int)) = false := decide_eq_false (by omega)
      obtain rfl : k = mn := by omega
      obtain ⟨ns, hns⟩ : ∃ ns, ns = m.map (·.name) := ⟨_, rfl⟩
      have hnl : ns.length = k := by rw [hns, List.length_map]; exact HMN.out.symm
      have HNS := Lib.hid (show ∀ x ∈ ns, x.size ≤ 1000 by
        intro x hx
        rw [hns] at hx
        obtain ⟨c', hc', rfl⟩ := List.mem_map.1 hx
        have := (HGL.out.1 c' hc').2
        have h3 : pcd.size = 2 := rfl
        omega)
      have HSTR := Lib.hid (show IsStrs (mask wr [bd]) ns na k nc by
        have h := HO.out
        rw [List.take_of_length_le (by have := HMN.out; omega), ← hns, ← hnl] at h
        obtain ⟨a', c', hv, h1, _⟩ := strs_of_owns h [bd] (fun x hx => by
          simp only [List.mem_singleton] at hx
          have := blk_lt HBS.out; have := HBB.out; omega)
        rw [hnl] at hv h1
        simp only [Value.slice.injEq] at hv
        obtain ⟨rfl, _, rfl⟩ := hv
        exact h1)
      have HXW := Lib.hid (HX4.out.trans HX.out)
      have HDW := Lib.hid (HDK.out.ext HXW.out)
      obtain ⟨b0, bf⟩ := blk1 (HX.out.blk HBS.out)
      have HDX := Lib.hid (show Calls Try.prog 10 #[.pointer (some ⟨bd, 0, none⟩), .agg #[.slice sa sn sc], .slice na k nc, .int .i64 4] wr (MadeQ (MadeOk 4) w2 bd [] wr) from
        (dexpr_calls attrs ns (schemas_ok attrs HAT.out).1 (schemas_ok attrs HAT.out).2.1 (schemas_ok attrs HAT.out).2.2 (by omega) 3 (by omega) HDW.out sa sn sc na k nc [] (HSC.out.mono (mask_step (HXW.out.chg [bd]) (by simp))) HSTR.out (by simp)).mono fun e w' h => h.mono fun x hx => made_okay HAT.out HNS.out 4 x hx)
      clear hns hnl HO
      go_wp2_with fail
      refine HDX.out.mono ?_
      rintro r w6 ⟨x, xv, rfl, hmo, hix, hd6, hc6⟩
      have HMO := Lib.hid hmo
      have HIX := Lib.hid hix
      have HX6 := Lib.hid (show Ext w2 w6 by obtain ⟨_, _, _, _, _, _, _, _, hxw, _⟩ := hd6; exact hxw)
      have HM6 := Lib.hid ((HM.out.mono (mask_step (HXW.out.chg [bd]) (by simp))).mono (mask_step hc6 (by simp)))
      clear hmo hix hd6 hc6 b0 bf HDX
      unfold ExV.val exV
      go_upto_region 10 with fail
      obtain ⟨bx, hbx⟩ : ∃ bx, bx = w6.heap.size := ⟨_, rfl⟩
      obtain ⟨w9, hw9⟩ : ∃ w9, w9 = w6.alloc (.cells #[.int .i64 xv.op, .string xv.name, .slice xv.aw xv.nw xv.cw, .int .i64 xv.lo, .int .i64 xv.hi, .slice xv.aa xv.na xv.ca] 33) := ⟨_, rfl⟩
      have hx9 : Ext w6 w9 := by rw [hw9]; exact (Ext.refl _).alloc _
      have HX9 := Lib.hid hx9
      have HBX := Lib.hid (show w9.heap[bx]? = some (.cells #[.int .i64 xv.op, .string xv.name, .slice xv.aw xv.nw xv.cw, .int .i64 xv.lo, .int .i64 xv.hi, .slice xv.aa xv.na xv.ca] 33 (0, 0)) by rw [hw9, hbx]; exact alloc_new w6 _)
      rw [← hw9, ← hbx]
      clear hw9 hbx hx9
      have HXB := Lib.hid (HX6.out.trans HX9.out)
      obtain ⟨e0, e1, e2, e3, e4, e5, ef⟩ := blk6 (HXB.out.blk HBE.out)
      obtain ⟨x0, x1, x2, x3, x4, x5, xf⟩ := blk6 HBX.out
      have HLW := Lib.hid (HCL.out.ext (HX2.out.trans HXB.out))
      have HMW := Lib.hid (HM6.out.mono ((mask_sub _ _).trans HX9.out.sub))
      have HXX := Lib.hid (HIX.out.mono ((mask_sub _ _).trans HX9.out.sub))
      have HLZ := Lib.hid (show ∀ y ∈ l, y.name.size ≤ 1000000000000000 ∧ y.cond.size ≤ 100000 ∧ y.cond.fits ∧ bareE y.cond = true by
        intro y hy
        obtain ⟨_, ⟨b, hb⟩, h3, _⟩ := HOK.out y hy
        obtain ⟨s1, s2⟩ := cond_sizes h3
        exact ⟨by rw [hb, size1]; omega, by omega, s2, bare_cond h3⟩)
      have HMZ := Lib.hid (show ∀ y ∈ m, y.name.size ≤ 1000000000000000 ∧ y.cond.size ≤ 100000 ∧ y.cond.fits ∧ bareE y.cond = true by
        intro y hy
        obtain ⟨⟨g1, g2, g3, g4, g5, g6⟩, g7⟩ := HGL.out.1 y hy
        have h3 : pcd.size = 2 := rfl
        exact ⟨by omega, by omega, g1, g4⟩)
      have HEA := Lib.hid (show (exNm nmA).size ≤ 100000 ∧ (exNm nmA).fits ∧ bareE (exNm nmA) = true from ⟨by unfold exNm; rw [size_plain]; omega, fits_plain (by show 1 ≤ _; omega), by unfold exNm bareE; simp [bareL]⟩)
      have HXS := Lib.hid (show x.size ≤ 100000 ∧ x.fits ∧ bareE x = true from ⟨Nat.le_trans HMO.out.size (by simp only [bndS]; omega), HMO.out.fits, HMO.out.bare⟩)
      obtain ⟨X1, hX1⟩ : ∃ X1 : Int, X1 = (expanded l (exNm nmA) : Nat) := ⟨_, rfl⟩
      obtain ⟨X2, hX2⟩ : ∃ X2 : Int, X2 = (expanded m x : Nat) := ⟨_, rfl⟩
      have HC1 := Lib.hid (show ∀ W, Ext w9 W → Calls Try.prog 11 #[.slice la ln lc, .agg #[.int .i64 3, .string ⟨#[97]⟩, .slice none 0 0, .int .i64 0, .int .i64 0, .slice none 0 0]] W (GivesE (.int .i64 X1) W) from fun W hW => by
        rw [hX1]; exact cExpanded_calls l la ln lc (exNm nmA) _ W (HLW.out.ext hW) (isEx_plain W 3 0 0 nmA) HEA.out (by omega) HLZ.out)
      have HC2 := Lib.hid (show ∀ W, Ext w9 W → Calls Try.prog 12 #[.slice la ln lc, .agg #[.int .i64 3, .string ⟨#[97]⟩, .slice none 0 0, .int .i64 0, .int .i64 0, .slice none 0 0]] W (GivesE (.int .i64 X1) W) from fun W hW => by
        rw [hX1]; exact rExpanded_calls l la ln lc (by omega) (fun y hy => by have := (HLZ.out y hy).2.1; omega) (exNm nmA) _ W (by have := HEA.out.1; omega) (HLW.out.ext hW) (isEx_plain W 3 0 0 nmA))
      have HC3 := Lib.hid (show ∀ W, Ext w9 W → Calls Try.prog 11 #[.slice ma k mc, .agg #[.int .i64 xv.op, .string xv.name, .slice xv.aw xv.nw xv.cw, .int .i64 xv.lo, .int .i64 xv.hi, .slice xv.aa xv.na xv.ca]] W (GivesE (.int .i64 X2) W) from fun W hW => by
        rw [hX2]; exact cExpanded_calls m ma k mc x _ W (HMW.out.ext hW) (HXX.out.ext hW) HXS.out (by omega) HMZ.out)
      have HC4 := Lib.hid (show ∀ W, Ext w9 W → Calls Try.prog 12 #[.slice ma k mc, .agg #[.int .i64 xv.op, .string xv.name, .slice xv.aw xv.nw xv.cw, .int .i64 xv.lo, .int .i64 xv.hi, .slice xv.aa xv.na xv.ca]] W (GivesE (.int .i64 X2) W) from fun W hW => by
        rw [hX2]; exact rExpanded_calls m ma k mc (by omega) (fun y hy => by have := (HMZ.out y hy).2.1; omega) x _ W (by have := HXS.out.1; omega) (HMW.out.ext hW) (HXX.out.ext hW))
      have HAW := Lib.hid (show ∀ W, Ext w9 W → Calls Try.prog 7 #[] W (GivesE (.bool true) W) from fun W _ => awake10_calls W)
      have HXZ := Lib.hid ((HX1.out.trans HX2.out).trans HXB.out)
      clear hX1 hX2
      obtain ⟨mn, rfl⟩ : ∃ mn, mn = k := ⟨_, rfl⟩
      --BEGIN X10
      refine wp_region_growLG (n := 59) (m := 20) [19] (GrGV w9) GrE (GrP (cxR la ln lc ma mn mc xv X1 X2)) (by kernel_rfl) (by kernel_rfl) (Nat.le_of_ble_eq_true rfl) ?gd ((Ext.refl w9).drew) ?_ ?_ ?_
      case gd =>
        intro i o j b hi ho hg
        have hi' : i = 0 ∨ i = 1 ∨ i = 2 ∨ i = 3 ∨ i = 4 ∨ i = 5 ∨ i = 6 ∨ i = 7 ∨ i = 8 ∨ i = 9 ∨ i = 10 ∨ i = 11 ∨ i = 12 ∨ i = 13 ∨ i = 14 ∨ i = 15 ∨ i = 16 ∨ i = 17 ∨ i = 18 ∨ i = 19 := by omega
        rcases hi' with rfl | rfl | rfl | rfl | rfl | rfl | rfl | rfl | rfl | rfl | rfl | rfl | rfl | rfl | rfl | rfl | rfl | rfl | rfl | rfl <;> (cases ho; first | (cases hg; done) | (cases hg; intro v W h; exact h))
      · intro i k v W W' hi hk hne hout h hE
        have hE : Ext W W' := hE
        have hi' : i = 0 ∨ i = 1 ∨ i = 2 ∨ i = 3 ∨ i = 4 ∨ i = 5 ∨ i = 6 ∨ i = 7 ∨ i = 8 ∨ i = 9 ∨ i = 10 ∨ i = 11 ∨ i = 12 ∨ i = 13 ∨ i = 14 ∨ i = 15 ∨ i = 16 ∨ i = 17 ∨ i = 18 ∨ i = 19 := by omega
        clear hi hk hne hout
        rcases hi' with rfl | rfl | rfl | rfl | rfl | rfl | rfl | rfl | rfl | rfl | rfl | rfl | rfl | rfl | rfl | rfl | rfl | rfl | rfl | rfl
        · exact h
        · exact h
        · exact h
        · exact h
        · exact h
        · exact h
        · exact h
        · exact h
        · exact h
        · exact h
        · exact h
        · exact h
        · exact h
        · exact h
        · exact h
        · exact h
        · exact h
        · exact h
        · exact h
        · exact h
      · intro q op hq ho L vs W hqL hcL hW hd ρ hρ
        have hq' : q = 0 ∨ q = 1 ∨ q = 2 ∨ q = 3 ∨ q = 4 ∨ q = 5 ∨ q = 6 ∨ q = 7 ∨ q = 8 ∨ q = 9 ∨ q = 10 ∨ q = 11 ∨ q = 12 ∨ q = 13 ∨ q = 14 ∨ q = 15 ∨ q = 16 ∨ q = 17 ∨ q = 18 ∨ q = 19 := by omega
        clear hq
        have o5 : ρ (.tmp 5) = .slice la ln lc := hρ.out 5 rfl
        have o6 : ρ (.tmp 6) = .pointer (some ⟨be, 0, none⟩) := hρ.out 6 rfl
        have i0 := hρ.ins 0 40 (by omega) rfl (Nat.le_of_ble_eq_true rfl)
        have i1 := hρ.ins 1 41 (by omega) rfl (Nat.le_of_ble_eq_true rfl)
        have i3 := hρ.ins 3 43 (by omega) rfl (Nat.le_of_ble_eq_true rfl)
        have i4 := hρ.ins 4 44 (by omega) rfl (Nat.le_of_ble_eq_true rfl)
        have i2 := hρ.ins 2 42 (by omega) rfl (Nat.le_of_ble_eq_true rfl)
        have i5 := hρ.ins 5 45 (by omega) rfl (Nat.le_of_ble_eq_true rfl)
        have i6 := hρ.ins 6 46 (by omega) rfl (Nat.le_of_ble_eq_true rfl)
        have o8 : ρ (.tmp 8) = .slice ma mn mc := hρ.out 8 rfl
        have o12 : ρ (.tmp 12) = .pointer (some ⟨bx, 0, none⟩) := hρ.out 12 rfl
        have i8 := hρ.ins 8 48 (by omega) rfl (Nat.le_of_ble_eq_true rfl)
        have i9 := hρ.ins 9 49 (by omega) rfl (Nat.le_of_ble_eq_true rfl)
        have i11 := hρ.ins 11 51 (by omega) rfl (Nat.le_of_ble_eq_true rfl)
        have i12 := hρ.ins 12 52 (by omega) rfl (Nat.le_of_ble_eq_true rfl)
        have i10 := hρ.ins 10 50 (by omega) rfl (Nat.le_of_ble_eq_true rfl)
        have i13 := hρ.ins 13 53 (by omega) rfl (Nat.le_of_ble_eq_true rfl)
        have i7 := hρ.ins 7 47 (by omega) rfl (Nat.le_of_ble_eq_true rfl)
        have i14 := hρ.ins 14 54 (by omega) rfl (Nat.le_of_ble_eq_true rfl)
        have i15 := hρ.ins 15 55 (by omega) rfl (Nat.le_of_ble_eq_true rfl)
        have i16 := hρ.ins 16 56 (by omega) rfl (Nat.le_of_ble_eq_true rfl)
        have i17 := hρ.ins 17 57 (by omega) rfl (Nat.le_of_ble_eq_true rfl)
        have i18 := hρ.ins 18 58 (by omega) rfl (Nat.le_of_ble_eq_true rfl)
        have hc := hρ.const
        have hfn := hρ.func
        clear hρ
        rcases hq' with rfl | rfl | rfl | rfl | rfl | rfl | rfl | rfl | rfl | rfl | rfl | rfl | rfl | rfl | rfl | rfl | rfl | rfl | rfl | rfl
        · have HG := Lib.hid hW
          have HW := Lib.hid (show Ext w9 W from hW)
          have HQL := Lib.hid hqL
          clear hW hqL hcL
          cases ho
          clear hd
          unfold GivesOp
          go_simp
          exact ⟨Ext.refl _, HW.out, rfl⟩
        · have HG := Lib.hid hW
          have HW := Lib.hid (show Ext w9 W from hW)
          have HQL := Lib.hid hqL
          clear hW hqL hcL
          cases ho
          clear hd
          have g0 := HW.out.cell e0
          have g1 := HW.out.cell e1
          have g2 := HW.out.cell e2
          have g3 := HW.out.cell e3
          have g4 := HW.out.cell e4
          have g5 := HW.out.cell e5
          unfold GivesOp
          go_simp
          exact ⟨Ext.refl _, HW.out, rfl⟩
        · have HG := Lib.hid hW
          have HW := Lib.hid (show Ext w9 W from hW)
          have HQL := Lib.hid hqL
          clear hW hqL hcL
          cases ho
          have h0 : vs 0 = .slice la ln lc := hd ⟨0, .data⟩ (by simp) rfl
          rw [h0] at i0
          have h1 : vs 1 = .agg #[.int .i64 3, .string ⟨#[97]⟩, .slice none 0 0, .int .i64 0, .int .i64 0, .slice none 0 0] := hd ⟨1, .data⟩ (by simp) rfl
          rw [h1] at i1
          clear hd
          unfold GivesOp
          go_simp
          refine (HC1.out W HW.out).mono ?_
          rintro e5 w5 ⟨rfl, hx5⟩
          exact ⟨_, rfl, hx5, HW.out.trans hx5, rfl⟩
        · have HG := Lib.hid hW
          have HW := Lib.hid (show Ext w9 W from hW)
          have HQL := Lib.hid hqL
          clear hW hqL hcL
          cases ho
          clear hd
          unfold GivesOp
          go_simp
          exact ⟨Ext.refl _, HW.out, rfl⟩
        · have HG := Lib.hid hW
          have HW := Lib.hid (show Ext w9 W from hW)
          have HQL := Lib.hid hqL
          clear hW hqL hcL
          cases ho
          clear hd
          have g0 := HW.out.cell e0
          have g1 := HW.out.cell e1
          have g2 := HW.out.cell e2
          have g3 := HW.out.cell e3
          have g4 := HW.out.cell e4
          have g5 := HW.out.cell e5
          unfold GivesOp
          go_simp
          exact ⟨Ext.refl _, HW.out, rfl⟩
        · have HG := Lib.hid hW
          have HW := Lib.hid (show Ext w9 W from hW)
          have HQL := Lib.hid hqL
          clear hW hqL hcL
          cases ho
          have h3 : vs 3 = .slice la ln lc := hd ⟨3, .data⟩ (by simp) rfl
          rw [h3] at i3
          have h4 : vs 4 = .agg #[.int .i64 3, .string ⟨#[97]⟩, .slice none 0 0, .int .i64 0, .int .i64 0, .slice none 0 0] := hd ⟨4, .data⟩ (by simp) rfl
          rw [h4] at i4
          clear hd
          unfold GivesOp
          go_simp
          refine (HC2.out W HW.out).mono ?_
          rintro e5 w5 ⟨rfl, hx5⟩
          exact ⟨_, rfl, hx5, HW.out.trans hx5, rfl⟩
        · have HG := Lib.hid hW
          have HW := Lib.hid (show Ext w9 W from hW)
          have HQL := Lib.hid hqL
          clear hW hqL hcL
          cases ho
          have h2 : vs 2 = .int .i64 X1 := hd ⟨2, .data⟩ (by simp) rfl
          rw [h2] at i2
          have h5 : vs 5 = .int .i64 X1 := hd ⟨5, .data⟩ (by simp) rfl
          rw [h5] at i5
          clear hd
          unfold GivesOp
          go_simp
          exact ⟨Ext.refl _, HW.out, rfl⟩
        · have HG := Lib.hid hW
          have HW := Lib.hid (show Ext w9 W from hW)
          have HQL := Lib.hid hqL
          clear hW hqL hcL
          cases ho
          have h6 : vs 6 = .bool true := hd ⟨6, .data⟩ (by simp) rfl
          rw [h6] at i6
          clear hd
          unfold GivesOp
          go_simp
          exact ⟨Ext.refl _, HW.out, rfl⟩
        · have HG := Lib.hid hW
          have HW := Lib.hid (show Ext w9 W from hW)
          have HQL := Lib.hid hqL
          clear hW hqL hcL
          cases ho
          clear hd
          unfold GivesOp
          go_simp
          exact ⟨Ext.refl _, HW.out, rfl⟩
        · have HG := Lib.hid hW
          have HW := Lib.hid (show Ext w9 W from hW)
          have HQL := Lib.hid hqL
          clear hW hqL hcL
          cases ho
          clear hd
          have g0 := HW.out.cell x0
          have g1 := HW.out.cell x1
          have g2 := HW.out.cell x2
          have g3 := HW.out.cell x3
          have g4 := HW.out.cell x4
          have g5 := HW.out.cell x5
          unfold GivesOp
          go_simp
          exact ⟨Ext.refl _, HW.out, rfl⟩
        · have HG := Lib.hid hW
          have HW := Lib.hid (show Ext w9 W from hW)
          have HQL := Lib.hid hqL
          clear hW hqL hcL
          cases ho
          have h8 : vs 8 = .slice ma mn mc := hd ⟨8, .data⟩ (by simp) rfl
          rw [h8] at i8
          have h9 : vs 9 = .agg #[.int .i64 xv.op, .string xv.name, .slice xv.aw xv.nw xv.cw, .int .i64 xv.lo, .int .i64 xv.hi, .slice xv.aa xv.na xv.ca] := hd ⟨9, .data⟩ (by simp) rfl
          rw [h9] at i9
          clear hd
          unfold GivesOp
          go_simp
          refine (HC3.out W HW.out).mono ?_
          rintro e5 w5 ⟨rfl, hx5⟩
          exact ⟨_, rfl, hx5, HW.out.trans hx5, rfl⟩
        · have HG := Lib.hid hW
          have HW := Lib.hid (show Ext w9 W from hW)
          have HQL := Lib.hid hqL
          clear hW hqL hcL
          cases ho
          clear hd
          unfold GivesOp
          go_simp
          exact ⟨Ext.refl _, HW.out, rfl⟩
        · have HG := Lib.hid hW
          have HW := Lib.hid (show Ext w9 W from hW)
          have HQL := Lib.hid hqL
          clear hW hqL hcL
          cases ho
          clear hd
          have g0 := HW.out.cell x0
          have g1 := HW.out.cell x1
          have g2 := HW.out.cell x2
          have g3 := HW.out.cell x3
          have g4 := HW.out.cell x4
          have g5 := HW.out.cell x5
          unfold GivesOp
          go_simp
          exact ⟨Ext.refl _, HW.out, rfl⟩
        · have HG := Lib.hid hW
          have HW := Lib.hid (show Ext w9 W from hW)
          have HQL := Lib.hid hqL
          clear hW hqL hcL
          cases ho
          have h11 : vs 11 = .slice ma mn mc := hd ⟨11, .data⟩ (by simp) rfl
          rw [h11] at i11
          have h12 : vs 12 = .agg #[.int .i64 xv.op, .string xv.name, .slice xv.aw xv.nw xv.cw, .int .i64 xv.lo, .int .i64 xv.hi, .slice xv.aa xv.na xv.ca] := hd ⟨12, .data⟩ (by simp) rfl
          rw [h12] at i12
          clear hd
          unfold GivesOp
          go_simp
          refine (HC4.out W HW.out).mono ?_
          rintro e5 w5 ⟨rfl, hx5⟩
          exact ⟨_, rfl, hx5, HW.out.trans hx5, rfl⟩
        · have HG := Lib.hid hW
          have HW := Lib.hid (show Ext w9 W from hW)
          have HQL := Lib.hid hqL
          clear hW hqL hcL
          cases ho
          have h10 : vs 10 = .int .i64 X2 := hd ⟨10, .data⟩ (by simp) rfl
          rw [h10] at i10
          have h13 : vs 13 = .int .i64 X2 := hd ⟨13, .data⟩ (by simp) rfl
          rw [h13] at i13
          clear hd
          unfold GivesOp
          go_simp
          exact ⟨Ext.refl _, HW.out, rfl⟩
        · have HG := Lib.hid hW
          have HW := Lib.hid (show Ext w9 W from hW)
          have HQL := Lib.hid hqL
          clear hW hqL hcL
          cases ho
          have h7 : vs 7 = .bool true := hd ⟨7, .data⟩ (by simp) rfl
          rw [h7] at i7
          have h14 : vs 14 = .bool true := hd ⟨14, .data⟩ (by simp) rfl
          rw [h14] at i14
          clear hd
          unfold GivesOp
          go_simp
          exact ⟨Ext.refl _, HW.out, rfl⟩
        · have HG := Lib.hid hW
          have HW := Lib.hid (show Ext w9 W from hW)
          have HQL := Lib.hid hqL
          clear hW hqL hcL
          cases ho
          have h15 : vs 15 = .bool true := hd ⟨15, .data⟩ (by simp) rfl
          rw [h15] at i15
          clear hd
          unfold GivesOp
          go_simp
          exact ⟨Ext.refl _, HW.out, rfl⟩
        · have HG := Lib.hid hW
          have HW := Lib.hid (show Ext w9 W from hW)
          have HQL := Lib.hid hqL
          clear hW hqL hcL
          cases ho
          clear hd
          unfold GivesOp
          go_simp
          refine (HAW.out W HW.out).mono ?_
          rintro e5 w5 ⟨rfl, hx5⟩
          exact ⟨_, rfl, hx5, HW.out.trans hx5, rfl⟩
        · have HG := Lib.hid hW
          have HW := Lib.hid (show Ext w9 W from hW)
          have HQL := Lib.hid hqL
          clear hW hqL hcL
          cases ho
          have h16 : vs 16 = .bool true := hd ⟨16, .data⟩ (by simp) rfl
          rw [h16] at i16
          have h17 : vs 17 = .bool true := hd ⟨17, .data⟩ (by simp) rfl
          rw [h17] at i17
          clear hd
          unfold GivesOp
          go_simp
          exact ⟨Ext.refl _, HW.out, rfl⟩
        · have HG := Lib.hid hW
          have HW := Lib.hid (show Ext w9 W from hW)
          have HQL := Lib.hid hqL
          clear hW hqL hcL
          cases ho
          have h18 : vs 18 = .bool true := hd ⟨18, .data⟩ (by simp) rfl
          rw [h18] at i18
          clear hd
          unfold GivesOp
          go_simp
          exact ⟨Ext.refl _, HW.out, rfl⟩
      intro L vs W hLm hW hR
      rw [if_pos (by decide +kernel)]
      have h19 : vs 19 = .bool true := hR 19 (by simp) (by omega)
      simp only [acts, dstAt, List.range, List.range.loop, List.foldl_cons, List.foldl_nil, h19]
      go_simp
      have hW2 : Ext w9 W := hW
      clear hR hW hLm h19
      --END X10
      go_wp2_with fail
      go_ret
      exact ⟨rfl, HXZ.out.trans hW2⟩
end Go.Proofs.Ytfjlglefodndjaa
