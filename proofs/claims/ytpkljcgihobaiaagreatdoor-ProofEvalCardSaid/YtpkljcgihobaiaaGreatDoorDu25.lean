/-
  Texts of the claim, joined: Truth, Eval, PV.
-/
import Derived.Test.YtpkljcgihobaiaaGreatDoorDu18
import Derived.Test.YtpkljcgihobaiaaGreatDoorDu08
import Derived.Test.YtpkljcgihobaiaaGreatDoorDu19
import Derived.StillTailTactics
import Derived.Test.YtpkljcgihobaiaaGreatDoorDu23
import Derived.Test.YtpkljcgihobaiaaGreatDoorDu24
import Derived.Test.YtpkljcgihobaiaaGreatDoorDu20
import Derived.Test.YtpkljcgihobaiaaGreatDoorDu15
import Derived.Test.YtpkljcgihobaiaaGreatDoorDu09
namespace Go.Proofs.YtpkljcgihobaiaaGreatDoor
open Go.RowKit

/-! The reference's Truth. -/
def valsOf (s : List Attr) (l : List Cla) (f : List Int) (g : Nat) : ByteArray → Option Bool := fun x => (defAt l x).map fun d => valF s l f g (l.getD d cla0).cond
theorem valF_eq (s : List Attr) (l : List Cla) (f : List Int) (g : Nat) (e : Ex) : valF s l f (g + 1) e = valE s f (valsOf s l f g) e := rfl
/-- How many of the first k are true. -/
def TruthN (s : List Attr) (f : List Int) (V : ByteArray → Option Bool) (args : List Ex) (na : Nat) (bs : Nat) (o0 o1 : Obj) (w : World) (t i : Value) (wr : World) : Prop := ∃ k q : Nat, i = .int .i64 k ∧ t = .int .i64 q ∧ k ≤ na ∧ q ≤ k ∧ (q = k ↔ ∀ j (h : j < args.length), j < k → valE s f V args[j] = true) ∧ wr.heap[bs]? = some o0 ∧ wr.heap[bs + 1]? = some o1 ∧ Ext w wr
def TruthA (s : List Attr) (f : List Int) (V : ByteArray → Option Bool) (args : List Ex) (na : Nat) (bs : Nat) (o0 o1 : Obj) (w : World) (i : Value) (wr : World) : Prop := ∃ k : Nat, i = .int .i64 k ∧ k ≤ na ∧ (∀ j (h : j < args.length), j < k → valE s f V args[j] = false) ∧ wr.heap[bs]? = some o0 ∧ wr.heap[bs + 1]? = some o1 ∧ Ext w wr
set_option maxRecDepth 100000 in
set_option maxHeartbeats 16000000 in
theorem rTruth_calls (s : List Attr) (l : List Cla) (f : List Int) (hc : Chk s l) (hfa : factsAll s f = true) (hsf : ∀ x ∈ s, x.fits) (a : Option Addr) (n c : Nat) (fa : Option Addr) (fn fc : Nat) : ∀ (g m : Nat) (e : Ex) (ev sv : Value) (w : World), e.size ≤ m → m ≤ 1000000 → okTree e → nodesErr s l e = 0 → expF l g e ≤ 2000 → IsSchema w s sv → IsClas w l a n c → IsEx w e ev → IsIntF w f fa fn →
    Calls Tryz.prog 19 #[sv, .slice a n c, ev, .slice fa fn fc] w (GivesE (.bool (valF s l f g e)) w) := by
  intro g
  induction g with
  | zero => intro m e ev sv w _ _ _ _ h; simp [expF] at h
  | succ g ihg =>
    intro m
    induction m with
    | zero => intro e ev sv w h; have := size_pos e; omega
    | succ m ihm =>
      intro e ev sv w hm hMM hok hnd hex hs hl he hi
      have hways := node_ways hok hnd
      obtain ⟨-, hnda⟩ := nodes_parts hnd
      obtain ⟨hokn, hoka⟩ := okTree_parts hok
      have hexa := expE_arg (D := dOf l g) (e := e) (by rw [← expF_succ]; exact hex)
      have hexh := expE_hd (D := dOf l g) (e := e) (by rw [← expF_succ]; exact hex)
      obtain ⟨sa, sn, sc, rfl, hsn⟩ := hs.slice
      obtain ⟨aw, nw, cw, aa, na, ca, rfl, hw, hna, hca, ha, hx⟩ := he.parts
      have hS : e.size = 1 + sizes e.args := e.size_eq
      have hla := length_le_sizes e.args
      obtain ⟨op, name, words, lo, hi', args⟩ := e
      simp only [Ex.op, Ex.name, Ex.words, Ex.lo, Ex.hi, Ex.args] at *
      have hna2 : na ≤ 1000000 := by omega
      have hszm : sizes args ≤ m := by omega
      obtain ⟨R, hR⟩ : ∃ R, R = valF s l f (g + 1) (.mk op name words lo hi' args) := ⟨_, rfl⟩
      rw [← hR]
      rw [valF_eq, valE] at hR
      have HR := Lib.hid hR
      have hsl6 := (schema_attrs hc.sch).2.1
      have hsn2 : sn ≤ 6 := by omega
      have hln := hl.len
      have hn100 : n ≤ 100 := by rw [hln]; exact hc.len
      have HSN := Lib.hid hsn
      have HLN := Lib.hid hln
      have HC := Lib.hid hc
      have HFA := Lib.hid hfa
      have HSF := Lib.hid hsf
      have HS := Lib.hid hs
      have HL := Lib.hid hl
      have HX := Lib.hid hx
      have HW := Lib.hid hw
      have HI := Lib.hid hi
      have HNA := Lib.hid hna
      have HARG := Lib.hid (fun (j : Nat) (hj : j < args.length) (xv : Value) (W : World) (hW : Ext w W) (hxv : IsEx W args[j] xv) => ihm args[j] xv (.agg #[.slice sa sn sc]) W (by have h1 := sizes_take_succ args j hj; have h2 := sizes_take_le args (j + 1); omega) (by omega) (hoka _ (List.getElem_mem hj)) (hnda j hj) (by rw [expF_succ]; exact hexa j hj) (hs.ext hW) (hl.ext hW) hxv (hi.ext hW))
      have HDEF := Lib.hid (fun (h3 : op = 3) (d : Nat) (hd : defAt l name = some d) (xv : Value) (W : World) (hW : Ext w W) (hxv : IsEx W (l.getD d cla0).cond xv) => ihg 300 (l.getD d cla0).cond xv (.agg #[.slice sa sn sc]) W (hc.cond (defAt_atK hd).1).2.2 (by omega) (hc.cond (defAt_atK hd).1).1 (hc.cond (defAt_atK hd).1).2.1 (hexh h3 (by unfold dOf; rw [hd]; rfl)) (hs.ext hW) (hl.ext hW) hxv (hi.ext hW))
      have HWD := Lib.hid (show op = 4 → words.length ≤ 12 from fun h4 => by
        rcases hokn with ⟨h1, -⟩ | ⟨h1, -⟩ | ⟨h1, -⟩ | ⟨h1, -, h2, -⟩ | ⟨h1, -⟩ | ⟨h1, -⟩ | ⟨h1, -⟩ <;> simp only [Ex.op] at h1
        all_goals first | omega | skip
        simp only [Ex.words, wordsB, Bool.and_eq_true] at h2
        exact of_decide_eq_true h2.1.1.2)
      clear hc hfa hsf hs hl hx hw hi hna hca ha hS hla ihg ihm hm hnda hoka hexa hexh hokn hok hnd hex he hsn hln hsl6 hR
      unfold exV
      obtain ⟨wa, hwa⟩ : ∃ wa, wa = (w.alloc (.cells #[.slice sa sn sc] 31)).alloc (.cells #[.int .i64 op, .string name, .slice aw nw cw, .int .i64 lo, .int .i64 hi', .slice aa na ca] 26) := ⟨_, rfl⟩
      have hxa : Ext w wa := by rw [hwa]; exact ((Ext.refl _).alloc _).alloc _
      have hb0 : wa.heap[w.heap.size]? = some (.cells #[.slice sa sn sc] 31 (0, 0)) := by rw [hwa]; exact blk_alloc (alloc_new w _)
      have hb1 : wa.heap[w.heap.size + 1]? = some (.cells #[.int .i64 op, .string name, .slice aw nw cw, .int .i64 lo, .int .i64 hi', .slice aa na ca] 26 (0, 0)) := by rw [hwa]; exact alloc_atR (by simp)
      have HXA := Lib.hid hxa
      have HB0 := Lib.hid hb0
      have HB1 := Lib.hid hb1
      obtain ⟨f0, f1, f2, f3, f4, f5, ff⟩ := blk6 hb1
      obtain ⟨e0, ef⟩ := blk1 hb0
      have hltw := blk_lt hb1
      have HIX := Lib.hid (rIndex_calls s _ name wa (HS.out.ext hxa) (by have := HSN.out; omega))
      clear hxa hb0 hb1
      rcases hways with rfl | rfl | ⟨rfl, i, hat, hkd⟩ | ⟨rfl, hat, d, hdf⟩ | ⟨rfl, i, hat, hkd⟩ | ⟨rfl, i, hat, hkd⟩ | ⟨rfl, hl1⟩ | rfl | rfl
      -- true
      · have HQ := Lib.hid (show R = true by rw [HR.out]; simp [factV])
        go_enter Tryz.func19, Tryz.ntmps19
        go_upto_region 1 with fail
        rw [← hwa]
        clear hwa
        go_wp2_with fail
        refine HIX.out.mono ?_
        rintro r w1 ⟨rfl, hx1⟩
        have HX1 := Lib.hid (HXA.out.trans hx1)
        unfold optV
        clear f0 f1 f2 f3 f4 f5 ff e0 ef hltw
        obtain ⟨f0, f1, f2, f3, f4, f5, ff⟩ := blk6 (hx1.blk HB1.out)
        clear hx1
        go_wp2_with fail
        go_ret
        exact givesE_bool (by rw [HQ.out]) HX1.out
      -- false
      · have HQ := Lib.hid (show R = false by rw [HR.out]; simp [factV])
        go_enter Tryz.func19, Tryz.ntmps19
        go_upto_region 1 with fail
        rw [← hwa]
        clear hwa
        go_wp2_with fail
        refine HIX.out.mono ?_
        rintro r w1 ⟨rfl, hx1⟩
        have HX1 := Lib.hid (HXA.out.trans hx1)
        unfold optV
        clear f0 f1 f2 f3 f4 f5 ff e0 ef hltw
        obtain ⟨f0, f1, f2, f3, f4, f5, ff⟩ := blk6 (hx1.blk HB1.out)
        clear hx1
        go_wp2_with fail
        go_ret
        exact givesE_bool (by rw [HQ.out]) HX1.out
      -- an attribute
      · obtain ⟨his, -⟩ := attrAt_at hat
        obtain ⟨hif, hlo2, hhi2⟩ := fact_at HFA.out his
        obtain ⟨fb, fo, rfl, hcell⟩ := HI.out.2 i hif
        obtain ⟨z, hz⟩ : ∃ z, z = f[i] := ⟨_, rfl⟩
        rw [← hz] at hcell
        have hdn : defAt l name = none := by
          cases hd : defAt l name with
          | none => rfl
          | some d => rw [HC.out.apart hd] at hat; cases hat
        have HQ := Lib.hid (show R = (z == 1) by
          rw [HR.out]
          simp only [factV, valsOf, hdn, hat]
          rw [Bool.eq_iff_iff]; simp [hif, ← hz])
        have hin : i < fn := by rw [HI.out.1]; exact hif
        have HCF := Lib.hid hcell
        rw [hat, optV_some] at HIX
        clear hat hkd his hif hlo2 hhi2 hcell hz hdn
        go_enter Tryz.func19, Tryz.ntmps19
        go_upto_region 1 with fail
        rw [← hwa]
        clear hwa
        go_wp2_with fail
        refine HIX.out.mono ?_
        rintro r w1 ⟨rfl, hx1⟩
        have HX1 := Lib.hid (HXA.out.trans hx1)
        clear f0 f1 f2 f3 f4 f5 ff e0 ef hltw
        obtain ⟨f0, f1, f2, f3, f4, f5, ff⟩ := blk6 (hx1.blk HB1.out)
        have hcf := HX1.out.cell HCF.out
        clear hx1
        go_wp2_with fail
        go_ret
        exact givesE_bool (by rw [HQ.out]) HX1.out
      -- a definition
      · have hdl := (defAt_atK hdf).1
        have HQ := Lib.hid (show R = valF s l f g (l.getD d cla0).cond by
          rw [HR.out]
          rw [if_neg (by decide), if_neg (by decide), if_neg (by decide), if_pos rfl, valsOf, hdf]; rfl)
        have hdn : d < n := by rw [HLN.out]; exact hdl
        have HDC := Lib.hid (fun W (hW : Ext w W) => rDef_calls l a n c name W (HL.out.ext hW) (by omega))
        rw [hdf] at HDC
        obtain ⟨cb, coff, v, rfl, hcla, hrow⟩ := HL.out.at hdl
        have HRW := Lib.hid hrow
        have HCX := Lib.hid (show IsEx w (l.getD d cla0).cond v.x.val by rw [getD_clK hdl]; exact hcla.2.2.1)
        have HDF := Lib.hid (HDEF.out rfl d hdf)
        obtain ⟨V, hV⟩ : ∃ V, V = valF s l f g (l.getD d cla0).cond := ⟨_, rfl⟩
        rw [← hV] at HQ HDF
        rw [hat, optV_none] at HIX
        clear hV hat hdf hdl hcla hrow HDEF HARG
        go_enter Tryz.func19, Tryz.ntmps19
        go_upto_region 1 with fail
        rw [← hwa]
        clear hwa
        go_wp2_with fail
        refine HIX.out.mono ?_
        rintro r w1 ⟨rfl, hx1⟩
        have HX1 := Lib.hid (HXA.out.trans hx1)
        have HB11 := Lib.hid (hx1.blk HB1.out)
        have HB01 := Lib.hid (hx1.blk HB0.out)
        clear f0 f1 f2 f3 f4 f5 ff e0 ef hltw
        obtain ⟨f0, f1, f2, f3, f4, f5, ff⟩ := blk6 HB11.out
        clear hx1
        go_wp2_with fail
        refine (HDC.out w1 HX1.out).mono ?_
        rintro r w2 ⟨rfl, rfl⟩
        rw [optV_some]
        obtain ⟨e0, ef⟩ := blk1 HB01.out
        obtain ⟨c0, c1, c2, c3, c4, c5, c6, c7, c8, c9⟩ := (HRW.out.mono HX1.out.sub).ten
        go_wp2_with fail
        go_still_tail 8, (by kernel_rfl)
        change wpList _ _ _ _ _ w1.drew
        have hx2 : Ext w1 w1.drew := (Ext.refl w1).drew
        generalize w1.drew = w2 at hx2 ⊢
        have HX2 := Lib.hid (HX1.out.trans hx2)
        clear hx2 c0 c1 c2 c3 c4 c5 c6 c7 c8 c9 f0 f1 f2 f3 f4 f5 ff e0 ef
        have HDG := Lib.hid (HDF.out v.x.val w2 HX2.out (HCX.out.ext HX2.out))
        unfold ExV.val exV at HDG
        go_wp2_with fail
        refine HDG.out.mono ?_
        rintro r w3 ⟨rfl, hx3⟩
        have HX3 := Lib.hid (HX2.out.trans hx3)
        clear hx3
        go_wp2_with fail
        go_ret
        exact givesE_bool (by rw [HQ.out]) HX3.out
      -- a word
      · obtain ⟨his, -⟩ := attrAt_at hat
        obtain ⟨hif, hlo2, hhi2⟩ := fact_at HFA.out his
        have hkd' : s[i].kind = 1 := by rw [← hkd]; simp [his]
        have hdm : domB s[i] = (0, (s[i].words.length : Int) - 1) := by unfold domB; rw [if_pos hkd']
        rw [hdm] at hlo2 hhi2
        simp only at hlo2 hhi2
        obtain ⟨ab, ao, rfl, hA⟩ : ∃ ab ao, sa = some ⟨ab, ao, none⟩ ∧ AttrAt w s[i] ab (ao + i * 5) := by
          obtain ⟨xa, xn, xc, e', -, -, -, hq⟩ := HS.out.parts
          simp only [Value.agg.injEq, Array.mk.injEq, List.cons.injEq, Value.slice.injEq, and_true] at e'
          obtain ⟨rfl, rfl, rfl⟩ := e'
          exact hq i his
        obtain ⟨x1, hx1⟩ : ∃ x1, x1 = s[i] := ⟨_, rfl⟩
        rw [← hx1] at hA hkd' hhi2
        obtain ⟨bw, nwa, cwa, hstr, hfive⟩ := hA.five
        have H5 := Lib.hid hfive
        obtain ⟨fb, fo, rfl, hcell⟩ := HI.out.2 i hif
        obtain ⟨z, hz⟩ : ∃ z : Nat, f[i] = (z : Int) := ⟨f[i].toNat, by omega⟩
        rw [hz] at hcell hlo2 hhi2
        have hzw : z < x1.words.length := by omega
        obtain ⟨wb, wo, rfl, hwc⟩ := hstr.2.2.2 z hzw
        have HWC := Lib.hid hwc
        have hzn : z < nwa := by rw [hstr.1]; exact hzw
        have HQ := Lib.hid (show R = words.any (fun y => decide (y = x1.words[z])) by
          rw [HR.out]
          simp only [factV, hat]
          rw [if_neg (by decide), if_neg (by decide), if_neg (by decide), if_neg (by decide), if_neg (by decide), if_neg (by decide), if_pos (by decide)]
          simp [his, hif, hz, ← hx1, hzw])
        have hin : i < fn := by rw [HI.out.1]; exact hif
        have hisn : i < sn := by rw [HSN.out]; exact his
        have HCF := Lib.hid hcell
        have HWI := Lib.hid (fun W (hW : Ext w W) => rWithin_calls words aw nw cw x1.words[z] W (HW.out.ext hW) (by have := HWD.out rfl; rw [HW.out.1]; omega))
        rw [hat, optV_some] at HIX
        obtain ⟨x, hxx⟩ : ∃ x, x = x1.words[z] := ⟨_, rfl⟩
        rw [← hxx] at HWC HQ HWI
        clear hx1 hat hkd his hif hlo2 hhi2 hcell hz hkd' hdm hA hstr hfive hwc hzw hxx HARG HDEF
        go_enter Tryz.func19, Tryz.ntmps19
        go_upto_region 1 with fail
        rw [← hwa]
        clear hwa
        go_wp2_with fail
        refine HIX.out.mono ?_
        rintro r w1 ⟨rfl, hx1⟩
        have HX1 := Lib.hid (HXA.out.trans hx1)
        clear f0 f1 f2 f3 f4 f5 ff e0 ef hltw
        obtain ⟨f0, f1, f2, f3, f4, f5, ff⟩ := blk6 (hx1.blk HB1.out)
        obtain ⟨e0, ef⟩ := blk1 (hx1.blk HB0.out)
        have hcf := HX1.out.cell HCF.out
        have hwf := HX1.out.cell HWC.out
        obtain ⟨g0, g1, g2, g3, g4⟩ := H5.out w1 HX1.out
        clear hx1
        go_wp2_with fail
        go_still_tail 14, (by kernel_rfl)
        change wpList _ _ _ _ _ w1.drew
        have hx2 : Ext w1 w1.drew := (Ext.refl w1).drew
        generalize w1.drew = w2 at hx2 ⊢
        have HX2 := Lib.hid (HX1.out.trans hx2)
        clear hx2 f0 f1 f2 f3 f4 f5 ff e0 ef hcf hwf g0 g1 g2 g3 g4
        go_wp2_with fail
        refine (HWI.out w2 HX2.out).mono ?_
        rintro r w3 ⟨rfl, rfl⟩
        go_wp2_with fail
        go_ret
        exact givesE_bool (by rw [HQ.out]) HX2.out
      -- a number
      · obtain ⟨his, -⟩ := attrAt_at hat
        obtain ⟨hif, -, -⟩ := fact_at HFA.out his
        obtain ⟨fb, fo, rfl, hcell⟩ := HI.out.2 i hif
        obtain ⟨z, hz⟩ : ∃ z, z = f[i] := ⟨_, rfl⟩
        rw [← hz] at hcell
        have HQ := Lib.hid (show R = (decide (lo ≤ z) && decide (z ≤ hi')) by
          rw [HR.out]
          simp only [factV, hat]
          rw [if_neg (by decide), if_neg (by decide), if_neg (by decide), if_neg (by decide), if_neg (by decide), if_neg (by decide), if_neg (by decide), if_pos (by decide)]
          simp [hif, ← hz])
        have hin : i < fn := by rw [HI.out.1]; exact hif
        have HCF := Lib.hid hcell
        rw [hat, optV_some] at HIX
        clear hat hkd his hif hcell hz HARG HDEF
        have hw4 : (decide (lo ≤ z) = true ∧ decide (z ≤ hi') = true ∧ R = true) ∨ (decide (lo ≤ z) = true ∧ decide (z ≤ hi') = false ∧ R = false) ∨ (decide (lo ≤ z) = false ∧ R = false) := by
          rw [HQ.out]
          cases decide (lo ≤ z) <;> cases decide (z ≤ hi') <;> simp
        rcases hw4 with ⟨t1, t2, hf⟩ | ⟨t1, t2, hf⟩ | ⟨t1, hf⟩
        all_goals
          have HF := Lib.hid hf
          clear hf
          go_enter Tryz.func19, Tryz.ntmps19
          go_upto_region 1 with fail
          rw [← hwa]
          clear hwa
          go_wp2_with fail
          refine HIX.out.mono ?_
          rintro r w1 ⟨rfl, hx1⟩
          have HX1 := Lib.hid (HXA.out.trans hx1)
          clear f0 f1 f2 f3 f4 f5 ff e0 ef hltw
          obtain ⟨f0, f1, f2, f3, f4, f5, ff⟩ := blk6 (hx1.blk HB1.out)
          have hcf := HX1.out.cell HCF.out
          clear hx1
          go_wp2_with fail
          go_quiet (fail)
          go_wp2_with fail
          go_ret
          exact givesE_bool (by rw [HF.out]) (HX1.out.drewN _)
      -- not
      · have hj : 0 < args.length := by omega
        have HQ := Lib.hid (show R = !(valF s l f (g + 1) args[0]) by
          rw [HR.out, if_pos rfl, valHd_at, List.getElem?_eq_getElem hj]; rfl)
        have hnp : 0 < na := by have := HNA.out; omega
        have HXJ := Lib.hid (fun W (hW : Ext w W) => ExsD.at args _ (ExsD.ext hW args _ HX.out) 0 hj)
        have HA0 := Lib.hid (HARG.out 0 hj)
        obtain ⟨V, hV⟩ : ∃ V, V = valF s l f (g + 1) args[0] := ⟨_, rfl⟩
        rw [← hV] at HQ HA0
        clear hl1 hV HARG HDEF
        go_enter Tryz.func19, Tryz.ntmps19
        go_upto_region 1 with fail
        rw [← hwa]
        clear hwa
        go_wp2_with fail
        refine HIX.out.mono ?_
        rintro r w1 ⟨rfl, hx1⟩
        have HX1 := Lib.hid (HXA.out.trans hx1)
        unfold optV
        clear f0 f1 f2 f3 f4 f5 ff e0 ef hltw
        obtain ⟨f0, f1, f2, f3, f4, f5, ff⟩ := blk6 (hx1.blk HB1.out)
        obtain ⟨e0, ef⟩ := blk1 (hx1.blk HB0.out)
        obtain ⟨b, off, rfl, aw1, nw1, cw1, aa1, na1, ca1, h0, h1, h2, h3, h4, h5, h6⟩ := HXJ.out w1 HX1.out
        have H6 := Lib.hid h6
        simp only [Nat.zero_mul, Nat.add_zero] at h0 h1 h2 h3 h4 h5
        clear hx1 h6
        go_wp2_with fail
        go_still_tail 7, (by kernel_rfl)
        change wpList _ _ _ _ _ w1.drew
        have hx2 : Ext w1 w1.drew := (Ext.refl w1).drew
        generalize w1.drew = w2 at hx2 ⊢
        have HX2 := Lib.hid (HX1.out.trans hx2)
        have HAX := Lib.hid (HA0.out _ w2 HX2.out (H6.out.ext hx2))
        unfold exV at HAX
        clear hx2 f0 f1 f2 f3 f4 f5 ff e0 ef h0 h1 h2 h3 h4 h5
        go_wp2_with fail
        refine HAX.out.mono ?_
        rintro r w3 ⟨rfl, hx3⟩
        have HX3 := Lib.hid (HX2.out.trans hx3)
        clear hx3
        go_wp2_with fail
        go_ret
        exact givesE_bool (by rw [HQ.out]) HX3.out
      -- and
      · have HQ := Lib.hid (show R = args.all (valE s f (valsOf s l f g)) by rw [HR.out, if_neg (by decide), if_pos rfl, valAll_iff])
        have HXJ := Lib.hid (fun W (hW : Ext w W) => ExsD.at args _ (ExsD.ext hW args _ HX.out))
        obtain ⟨V, hV⟩ : ∃ V, V = valsOf s l f g := ⟨_, rfl⟩
        rw [← hV] at HQ
        have HAV := Lib.hid (show ∀ (j : Nat) (hj : j < args.length) (xv : Value) (W : World), Ext w W → IsEx W args[j] xv → Calls Tryz.prog 19 #[.agg #[.slice sa sn sc], .slice a n c, xv, .slice fa fn fc] W (GivesE (.bool (valE s f V args[j])) W) from fun j hj xv W hW hxv => by rw [hV, ← valF_eq]; exact HARG.out j hj xv W hW hxv)
        clear hV HARG HDEF
        go_enter Tryz.func19, Tryz.ntmps19
        go_upto_region 1 with fail
        rw [← hwa]
        clear hwa
        go_wp2_with fail
        refine HIX.out.mono ?_
        rintro r w1 ⟨rfl, hx1⟩
        have HX1 := Lib.hid (HXA.out.trans hx1)
        have HB01 := Lib.hid (hx1.blk HB0.out)
        have HB11 := Lib.hid (hx1.blk HB1.out)
        unfold optV
        clear f0 f1 f2 f3 f4 f5 ff e0 ef hltw
        obtain ⟨f0, f1, f2, f3, f4, f5, ff⟩ := blk6 HB11.out
        clear hx1
        go_wp2_with fail
        clear f0 f1 f2 f3 f4 f5 ff
        go_loopw [13, 14] (TruthN s f V args na w.heap.size (.cells #[.slice sa sn sc] 31 (0, 0)) (.cells #[.int .i64 7, .string name, .slice aw nw cw, .int .i64 lo, .int .i64 hi', .slice aa na ca] 26 (0, 0)) w) (fun _ i _ => na - (intOf i).toNat)
        case atStart => exact ⟨0, 0, rfl, rfl, by omega, by omega, ⟨fun _ j _ h => by omega, fun _ => rfl⟩, HB01.out, HB11.out, HX1.out⟩
        case round =>
          obtain ⟨k, q, rfl, rfl, hk, hqk, hall, hb0, hb1, hxr⟩ := hrel
          have HALL := Lib.hid hall
          have HB0R := Lib.hid hb0
          have HB1R := Lib.hid hb1
          have HXR := Lib.hid hxr
          obtain ⟨e0, ef⟩ := blk1 hb0
          obtain ⟨f0, f1, f2, f3, f4, f5, ff⟩ := blk6 hb1
          clear hall hb0 hb1 hxr
          by_cases hkn : k < na
          · have hka : k < args.length := by have := HNA.out; omega
            have t1 : decide ((k : Int) < (na : Int)) = true := decide_eq_true (by omega)
            obtain ⟨b, off, rfl, aw1, nw1, cw1, aa1, na1, ca1, h0, h1, h2, h3, h4, h5, h6⟩ := HXJ.out wr HXR.out k hka
            have H6 := Lib.hid h6
            have HAK := Lib.hid (HAV.out k hka)
            obtain ⟨B, hB⟩ : ∃ B, B = valE s f V args[k] := ⟨_, rfl⟩
            rw [← hB] at HAK
            have HBB := Lib.hid hB
            clear h6 hB
            go_wp2_with fail
            go_still_tail 8, (by kernel_rfl)
            change wpList _ _ _ _ _ wr.drew
            have hx2 : Ext wr wr.drew := (Ext.refl wr).drew
            generalize wr.drew = w2 at hx2 ⊢
            have HX2 := Lib.hid (HXR.out.trans hx2)
            have HB02 := Lib.hid (hx2.blk HB0R.out)
            have HB12 := Lib.hid (hx2.blk HB1R.out)
            have HAX := Lib.hid (HAK.out _ w2 HX2.out (H6.out.ext hx2))
            unfold exV at HAX
            clear hx2 f0 f1 f2 f3 f4 f5 ff e0 ef h0 h1 h2 h3 h4 h5
            go_wp2_with fail
            refine HAX.out.mono ?_
            rintro r w3 ⟨rfl, hx3⟩
            have HX3 := Lib.hid (HX2.out.trans hx3)
            have HB03 := Lib.hid (hx3.blk HB02.out)
            have HB13 := Lib.hid (hx3.blk HB12.out)
            clear hx3
            cases B
            · go_wp2_with fail
              go_roundw
              case rel =>
                refine ⟨k + 1, q, by go_num, rfl, by omega, by omega, ⟨fun h => by omega, fun h => ?_⟩, HB03.out, HB13.out, HX3.out⟩
                have := h k hka (by omega)
                rw [← HBB.out] at this; cases this
              case measure => simp [intOf]; omega
            · go_wp2_with fail
              go_roundw
              case rel =>
                refine ⟨k + 1, q + 1, by go_num, by go_num, by omega, by omega, ⟨fun h j hj hjk => ?_, fun h => ?_⟩, HB03.out, HB13.out, HX3.out⟩
                · by_cases e : j = k
                  · subst e; exact HBB.out.symm
                  · exact HALL.out.1 (by omega) j hj (by omega)
                · have := HALL.out.2 fun j hj hjk => h j hj (by omega)
                  omega
              case measure => simp [intOf]; omega
          · have t1 : decide ((k : Int) < (na : Int)) = false := decide_eq_false (by omega)
            have HF := Lib.hid (show R = ((q : Int) == (na : Int)) by
              rw [HQ.out, Bool.eq_iff_iff, List.all_eq_true]
              simp only [beq_iff_eq]
              constructor
              · intro h
                have := HALL.out.2 fun j hj _ => h _ (List.getElem_mem hj)
                omega
              · intro h x hx
                obtain ⟨j, hj, rfl⟩ := List.getElem_of_mem hx
                exact HALL.out.1 (by omega) j hj (by have := HNA.out; omega))
            go_wp2_with fail
            go_ret
            exact givesE_bool (by rw [HF.out]) HXR.out
      -- or
      · have HQ := Lib.hid (show R = args.any (valE s f (valsOf s l f g)) by rw [HR.out, if_neg (by decide), if_neg (by decide), if_pos rfl, valAny_iff])
        have HXJ := Lib.hid (fun W (hW : Ext w W) => ExsD.at args _ (ExsD.ext hW args _ HX.out))
        obtain ⟨V, hV⟩ : ∃ V, V = valsOf s l f g := ⟨_, rfl⟩
        rw [← hV] at HQ
        have HAV := Lib.hid (show ∀ (j : Nat) (hj : j < args.length) (xv : Value) (W : World), Ext w W → IsEx W args[j] xv → Calls Tryz.prog 19 #[.agg #[.slice sa sn sc], .slice a n c, xv, .slice fa fn fc] W (GivesE (.bool (valE s f V args[j])) W) from fun j hj xv W hW hxv => by rw [hV, ← valF_eq]; exact HARG.out j hj xv W hW hxv)
        clear hV HARG HDEF
        go_enter Tryz.func19, Tryz.ntmps19
        go_upto_region 1 with fail
        rw [← hwa]
        clear hwa
        go_wp2_with fail
        refine HIX.out.mono ?_
        rintro r w1 ⟨rfl, hx1⟩
        have HX1 := Lib.hid (HXA.out.trans hx1)
        have HB01 := Lib.hid (hx1.blk HB0.out)
        have HB11 := Lib.hid (hx1.blk HB1.out)
        unfold optV
        clear f0 f1 f2 f3 f4 f5 ff e0 ef hltw
        obtain ⟨f0, f1, f2, f3, f4, f5, ff⟩ := blk6 HB11.out
        clear hx1
        go_wp2_with fail
        clear f0 f1 f2 f3 f4 f5 ff
        go_loopw [15] (TruthA s f V args na w.heap.size (.cells #[.slice sa sn sc] 31 (0, 0)) (.cells #[.int .i64 8, .string name, .slice aw nw cw, .int .i64 lo, .int .i64 hi', .slice aa na ca] 26 (0, 0)) w) (fun i _ => na - (intOf i).toNat)
        case atStart => exact ⟨0, rfl, by omega, fun j _ h => by omega, HB01.out, HB11.out, HX1.out⟩
        case round =>
          obtain ⟨k, rfl, hk, hall, hb0, hb1, hxr⟩ := hrel
          have HALL := Lib.hid hall
          have HB0R := Lib.hid hb0
          have HB1R := Lib.hid hb1
          have HXR := Lib.hid hxr
          obtain ⟨e0, ef⟩ := blk1 hb0
          obtain ⟨f0, f1, f2, f3, f4, f5, ff⟩ := blk6 hb1
          clear hall hb0 hb1 hxr
          by_cases hkn : k < na
          · have hka : k < args.length := by have := HNA.out; omega
            have t1 : decide ((k : Int) < (na : Int)) = true := decide_eq_true (by omega)
            obtain ⟨b, off, rfl, aw1, nw1, cw1, aa1, na1, ca1, h0, h1, h2, h3, h4, h5, h6⟩ := HXJ.out wr HXR.out k hka
            have H6 := Lib.hid h6
            have HAK := Lib.hid (HAV.out k hka)
            obtain ⟨B, hB⟩ : ∃ B, B = valE s f V args[k] := ⟨_, rfl⟩
            rw [← hB] at HAK
            have HBB := Lib.hid hB
            clear h6 hB
            go_wp2_with fail
            go_still_tail 8, (by kernel_rfl)
            change wpList _ _ _ _ _ wr.drew
            have hx2 : Ext wr wr.drew := (Ext.refl wr).drew
            generalize wr.drew = w2 at hx2 ⊢
            have HX2 := Lib.hid (HXR.out.trans hx2)
            have HB02 := Lib.hid (hx2.blk HB0R.out)
            have HB12 := Lib.hid (hx2.blk HB1R.out)
            have HAX := Lib.hid (HAK.out _ w2 HX2.out (H6.out.ext hx2))
            unfold exV at HAX
            clear hx2 f0 f1 f2 f3 f4 f5 ff e0 ef h0 h1 h2 h3 h4 h5
            go_wp2_with fail
            refine HAX.out.mono ?_
            rintro r w3 ⟨rfl, hx3⟩
            have HX3 := Lib.hid (HX2.out.trans hx3)
            have HB03 := Lib.hid (hx3.blk HB02.out)
            have HB13 := Lib.hid (hx3.blk HB12.out)
            clear hx3
            cases B
            · go_wp2_with fail
              go_roundw
              case rel =>
                refine ⟨k + 1, by go_num, by omega, fun j hj hjk => ?_, HB03.out, HB13.out, HX3.out⟩
                by_cases e : j = k
                · subst e; exact HBB.out.symm
                · exact HALL.out j hj (by omega)
              case measure => simp [intOf]; omega
            · have HF := Lib.hid (show R = true by rw [HQ.out, List.any_eq_true]; exact ⟨_, List.getElem_mem hka, HBB.out.symm⟩)
              go_wp2_with fail
              go_ret
              exact givesE_bool (by rw [HF.out]) HX3.out
          · have t1 : decide ((k : Int) < (na : Int)) = false := decide_eq_false (by omega)
            have HF := Lib.hid (show R = false by
              rw [HQ.out, List.any_eq_false]
              intro x hx
              obtain ⟨j, hj, rfl⟩ := List.getElem_of_mem hx
              rw [HALL.out j hj (by have := HNA.out; omega)]; simp)
            go_wp2_with fail
            go_ret
            exact givesE_bool (by rw [HF.out]) HXR.out
end Go.Proofs.YtpkljcgihobaiaaGreatDoor

namespace Go.Proofs.YtpkljcgihobaiaaGreatDoor
open Go.RowKit Go.Maps

/-! proof.Eval. -/
/-- What came in: a schema, clauses, an expression, facts. -/
structure In11 (w : World) (s : List Attr) (l : List Cla) (e : Ex) (f : List Int) (sv ev : Value) (a : Option Addr) (n c : Nat) (fa : Option Addr) (fn : Nat) : Prop where
  sch : IsSchema w s sv
  sfit : ∀ x ∈ s, x.fits
  slen : s.length ≤ 1000000000000000
  clas : IsClas w l a n c
  cn : n ≤ 1000000
  cfit : ∀ x ∈ l, x.fit
  ex : IsEx w e ev
  few : e.few
  fit : e.fits
  slim : e.slim
  ints : IsIntF w f fa fn
  fnl : fn ≤ 1000000000000000
  ops : HasOps w
theorem In11.ext {w w' : World} {s : List Attr} {l : List Cla} {e : Ex} {f : List Int} {sv ev : Value} {a : Option Addr} {n c : Nat} {fa : Option Addr} {fn : Nat} (h : In11 w s l e f sv ev a n c fa fn) (hx : Ext w w') : In11 w' s l e f sv ev a n c fa fn :=
  ⟨h.sch.ext hx, h.sfit, h.slen, h.clas.ext hx, h.cn, h.cfit, h.ex.ext hx, h.few, h.fit, h.slim, h.ints.ext hx, h.fnl, h.ops.ext hx⟩
theorem In11.checked {w : World} {s : List Attr} {l : List Cla} {e : Ex} {f : List Int} {sv ev : Value} {a : Option Addr} {n c : Nat} {fa : Option Addr} {fn : Nat} (h : In11 w s l e f sv ev a n c fa fn) (fc : Nat) : Calls Tryz.prog 31 #[sv, .slice a n c, ev, .slice fa fn fc] w (CheckedQ s l e f n w) :=
  checked_calls s l e f ev sv a n c fa fn fc w h.sch h.sfit h.slen h.clas h.cn h.cfit h.ex h.few h.fit h.ints h.fnl h.ops
theorem In11.truth {w : World} {s : List Attr} {l : List Cla} {e : Ex} {f : List Int} {sv ev : Value} {a : Option Addr} {n c : Nat} {fa : Option Addr} {fn : Nat} (h : In11 w s l e f sv ev a n c fa fn) (ho : Ok11 s l e f) (fc : Nat) : Calls Tryz.prog 19 #[sv, .slice a n c, ev, .slice fa fn fc] w (GivesE (.bool (val s l f e)) w) :=
  rTruth_calls s l f ho.chk ho.facts h.sfit a n c fa fn fc (l.length + 1) 300 e ev sv w ho.size (by omega) ho.tree ho.node ho.exp h.sch h.clas h.ex h.ints
theorem In11.value {w : World} {s : List Attr} {l : List Cla} {e : Ex} {f : List Int} (ho : Ok11 s l e f) {lv : LossV} {nm : Nat} {ev : Value} (hl : IsLoss w s l f lv nm) (he : IsEx w e ev) : Calls Tryz.prog 44 #[lv.val, ev] w (GivesE (.bool (val s l f e)) w) :=
  value_calls s l f ho.chk ho.facts lv nm (l.length + 1) 300 e ev w ho.size (by omega) ho.tree ho.node ho.exp hl he
open Classical in
noncomputable def evalB (s : List Attr) (l : List Cla) (e : Ex) (f : List Int) : Bool := if evalErr s l e f = 0 then val s l f e else false
noncomputable def evalV (s : List Attr) (l : List Cla) (e : Ex) (f : List Int) : Value := .tuple #[.bool (evalB s l e f), .int .i64 (evalErr s l e f)]
set_option maxRecDepth 100000 in
set_option maxHeartbeats 8000000 in
theorem eval_calls (s : List Attr) (l : List Cla) (e : Ex) (f : List Int) (sv ev : Value) (a : Option Addr) (n c : Nat) (fa : Option Addr) (fn fc : Nat) (w : World) (hi : In11 w s l e f sv ev a n c fa fn) :
    Calls Tryz.prog 25 #[sv, .slice a n c, ev, .slice fa fn fc] w (GivesE (evalV s l e f) w) := by
  obtain ⟨sa, sn, sc, rfl, -⟩ := hi.sch.slice
  have HCK := Lib.hid (fun W (hW : Ext w W) => (hi.ext hW).checked fc)
  have HEX := Lib.hid hi.ex
  obtain ⟨aw, nw, cw, aa, na, ca, rfl, -⟩ := hi.ex.parts
  have HVA := Lib.hid (fun (h0 : evalErr s l e f = 0) (lv : LossV) W (hW : Ext w W) (hl : IsLoss W s l f lv n) => In11.value (evalErr_ok h0) hl (hi.ex.ext hW))
  unfold CheckedQ at HCK
  obtain ⟨EV, hEV⟩ : ∃ EV, EV = evalV s l e f := ⟨_, rfl⟩
  rw [← hEV]
  unfold evalV evalB at hEV
  obtain ⟨E, hE⟩ : ∃ E, E = evalErr s l e f := ⟨_, rfl⟩
  rw [← hE] at HCK HVA hEV
  obtain ⟨V, hV⟩ : ∃ V, V = val s l f e := ⟨_, rfl⟩
  rw [← hV] at HVA hEV
  have HE1 := Lib.hid (show E ≠ 0 → EV = .tuple #[.bool false, .int .i64 E] from fun h => by rw [hEV, if_neg h])
  have HE2 := Lib.hid (show E = 0 → EV = .tuple #[.bool V, .int .i64 E] from fun h => by rw [hEV, if_pos h])
  clear hi hE hV hEV
  unfold exV at *
  obtain ⟨wa, hwa⟩ : ∃ wa, wa = (w.alloc (.cells #[.slice sa sn sc] 31)).alloc (.cells #[.int .i64 e.op, .string e.name, .slice aw nw cw, .int .i64 e.lo, .int .i64 e.hi, .slice aa na ca] 26) := ⟨_, rfl⟩
  have hxa : Ext w wa := by rw [hwa]; exact ((Ext.refl _).alloc _).alloc _
  have hb0 : wa.heap[w.heap.size]? = some (.cells #[.slice sa sn sc] 31 (0, 0)) := by rw [hwa]; exact blk_alloc (alloc_new w _)
  have hb1 : wa.heap[w.heap.size + 1]? = some (.cells #[.int .i64 e.op, .string e.name, .slice aw nw cw, .int .i64 e.lo, .int .i64 e.hi, .slice aa na ca] 26 (0, 0)) := by rw [hwa]; exact alloc_atR (by simp)
  have HXA := Lib.hid hxa
  have HB1 := Lib.hid hb1
  obtain ⟨e0, ef⟩ := blk1 hb0
  obtain ⟨f0, f1, f2, f3, f4, f5, ff⟩ := blk6 hb1
  clear hxa hb0 hb1
  go_enter Tryz.func25, Tryz.ntmps25
  go_upto_region 1 with fail
  rw [← hwa]
  clear hwa
  go_wp2_with fail
  refine (HCK.out wa HXA.out).mono ?_
  rintro r w1 ⟨hx1, ⟨hz, rfl⟩ | ⟨hz, lv, rfl, hls⟩⟩
  · have HX1 := Lib.hid (HXA.out.trans hx1)
    have t1 : (E != 0) = true := by simp [hz]
    have HZ := Lib.hid hz
    clear hx1 hz e0 ef f0 f1 f2 f3 f4 f5 ff HCK HVA
    unfold lossZero
    go_wp2_with fail
    go_ret2
    exact ⟨by rw [HE1.out HZ.out]; rfl, HX1.out.alloc _⟩
  · have HX1 := Lib.hid (HXA.out.trans hx1)
    have HB11 := Lib.hid (hx1.blk HB1.out)
    have HVV := Lib.hid (fun W (hW : Ext w1 W) => HVA.out hz lv W (HX1.out.trans hW) (hls.ext hW))
    subst hz
    obtain ⟨la, ln, lc, bm, fa', fn', fc'⟩ := lv
    clear hx1 hls e0 ef f0 f1 f2 f3 f4 f5 ff HCK HVA
    obtain ⟨f0, f1, f2, f3, f4, f5, ff⟩ := blk6 HB11.out
    have hlt1 := blk_lt HB11.out
    unfold LossV.val at *
    go_wp2_with fail
    refine (HVV.out _ ((Ext.refl w1).alloc _)).mono ?_
    rintro r w3 ⟨rfl, hx3⟩
    have HX3 := Lib.hid ((HX1.out.alloc _).trans hx3)
    clear hx3
    go_wp2_with fail
    go_ret2
    exact ⟨by rw [HE2.out trivial]; rfl, HX3.out⟩
end Go.Proofs.YtpkljcgihobaiaaGreatDoor

namespace Go.Proofs.YtpkljcgihobaiaaGreatDoor
open Go.RowKit Go.Maps

/-! proof.Prove and proof.Verify. -/
theorem In11.prove {w : World} {s : List Attr} {l : List Cla} {e : Ex} {f : List Int} (ho : Ok11 s l e f) {lv : LossV} {nm : Nat} {ev : Value} (M : List Nat) (hM : ∀ y ∈ M, y < w.heap.size) (hl : IsLoss w s l f lv nm) (he : IsEx w e ev) : Calls Tryz.prog 32 #[lv.val, ev] w (ProveQ (pf s l f e) M w) :=
  prove_calls s l f ho.chk ho.facts lv nm (l.length + 1) 300 e ev M w ho.size (by omega) ho.tree ho.node ho.exp hM hl he
def prN : Value := .agg #[.bool false, .int .i64 0, .slice none 0 0]
def ProvedQ (s : List Attr) (l : List Cla) (e : Ex) (f : List Int) (M : List Nat) (w : World) (r : Ending) (w' : World) : Prop := Ext w w' ∧ ((evalErr s l e f ≠ 0 ∧ r = .returned (.tuple #[prN, .int .i64 (evalErr s l e f)])) ∨ (evalErr s l e f = 0 ∧ ∃ pv : PrV, r = .returned (.tuple #[pv.val, .int .i64 0]) ∧ IsPr (mask w' M) (pf s l f e) pv))
set_option maxRecDepth 100000 in
set_option maxHeartbeats 8000000 in
theorem proved_calls (s : List Attr) (l : List Cla) (e : Ex) (f : List Int) (sv ev : Value) (a : Option Addr) (n c : Nat) (fa : Option Addr) (fn fc : Nat) (M : List Nat) (w : World) (hi : In11 w s l e f sv ev a n c fa fn) (hM : ∀ y ∈ M, y < w.heap.size) :
    Calls Tryz.prog 13 #[sv, .slice a n c, ev, .slice fa fn fc] w (ProvedQ s l e f M w) := by
  obtain ⟨sa, sn, sc, rfl, -⟩ := hi.sch.slice
  have HCK := Lib.hid (fun W (hW : Ext w W) => (hi.ext hW).checked fc)
  obtain ⟨aw, nw, cw, aa, na, ca, rfl, -⟩ := hi.ex.parts
  have HVA := Lib.hid (fun (h0 : evalErr s l e f = 0) (lv : LossV) (N : List Nat) W (hW : Ext w W) (hN : ∀ y ∈ N, y < W.heap.size) (hl : IsLoss W s l f lv n) => In11.prove (evalErr_ok h0) N hN hl (hi.ex.ext hW))
  unfold CheckedQ at HCK
  obtain ⟨RQ, hRQ⟩ : ∃ RQ, RQ = ProvedQ s l e f M w := ⟨_, rfl⟩
  rw [← hRQ]
  unfold ProvedQ at hRQ
  obtain ⟨E, hE⟩ : ∃ E, E = evalErr s l e f := ⟨_, rfl⟩
  rw [← hE] at HCK HVA hRQ
  obtain ⟨q, hq⟩ : ∃ q, q = pf s l f e := ⟨_, rfl⟩
  rw [← hq] at HVA hRQ
  have HRQ := Lib.hid hRQ
  have HM := Lib.hid hM
  clear hi hE hq hRQ hM
  unfold exV at *
  obtain ⟨wa, hwa⟩ : ∃ wa, wa = ((w.alloc (.cells #[.slice sa sn sc] 31)).alloc (.cells #[.int .i64 e.op, .string e.name, .slice aw nw cw, .int .i64 e.lo, .int .i64 e.hi, .slice aa na ca] 26)).alloc (.cells #[.bool false, .int .i64 0, .slice none 0 0] 40) := ⟨_, rfl⟩
  have hxa : Ext w wa := by rw [hwa]; exact (((Ext.refl _).alloc _).alloc _).alloc _
  have hb0 : wa.heap[w.heap.size]? = some (.cells #[.slice sa sn sc] 31 (0, 0)) := by rw [hwa]; exact blk_alloc (blk_alloc (alloc_new w _))
  have hb1 : wa.heap[w.heap.size + 1]? = some (.cells #[.int .i64 e.op, .string e.name, .slice aw nw cw, .int .i64 e.lo, .int .i64 e.hi, .slice aa na ca] 26 (0, 0)) := by rw [hwa]; exact blk_alloc (alloc_atR (by simp))
  have hb2 : wa.heap[w.heap.size + 1 + 1]? = some prZero := by rw [hwa]; exact alloc_atR (by simp)
  have HXA := Lib.hid hxa
  have HB1 := Lib.hid hb1
  have HB2 := Lib.hid hb2
  obtain ⟨e0, ef⟩ := blk1 hb0
  obtain ⟨f0, f1, f2, f3, f4, f5, ff⟩ := blk6 hb1
  clear hxa hb0 hb1 hb2
  go_enter Tryz.func13, Tryz.ntmps13
  go_upto_region 1 with fail
  rw [← hwa]
  clear hwa
  go_wp2_with fail
  refine (HCK.out wa HXA.out).mono ?_
  rintro r w1 ⟨hx1, ⟨hz, rfl⟩ | ⟨hz, lv, rfl, hls⟩⟩
  · have t1 : (E != 0) = true := by simp [hz]
    have HZ := Lib.hid hz
    have HX1 := Lib.hid (HXA.out.trans hx1)
    have HB21 := Lib.hid (hx1.blk HB2.out)
    clear hx1 hz e0 ef f0 f1 f2 f3 f4 f5 ff HCK HVA
    unfold lossZero
    obtain ⟨w2, hw2⟩ : ∃ w2, w2 = w1.alloc (.cells #[.slice none 0 0, .map none, .slice none 0 0] 71) := ⟨_, rfl⟩
    have hx2 : Ext w1 w2 := by rw [hw2]; exact (Ext.refl _).alloc _
    go_upto_region 2 with fail
    rw [← hw2]
    clear hw2
    have HX2 := Lib.hid (HX1.out.trans hx2)
    have HB22 := Lib.hid (hx2.blk HB21.out)
    clear hx2 HB21 HX1
    obtain ⟨r0, r1, r2, rf⟩ := blk3 HB22.out
    have hltr := blk_lt HB22.out
    go_wp2_with fail
    obtain ⟨wz, hwz⟩ : ∃ wz, wz = put3 w2 (w.heap.size + 1 + 1) (.bool false) (.int .i64 0) (.slice none 0 0) := ⟨_, rfl⟩
    have HZB := Lib.hid (show wz.heap[w.heap.size + 1 + 1]? = some (.cells #[.bool false, .int .i64 0, .slice none 0 0] 40 (0, 0)) by rw [hwz]; exact put3_blk HB22.out _ _ _)
    have HXZ := Lib.hid (show Ext w wz by rw [hwz]; exact (put3_chg w2 (w.heap.size + 1 + 1) (.bool false) (.int .i64 0) (.slice none 0 0) (N := [w.heap.size + 1 + 1]) (by simp)).ext HX2.out (fun y hy => by simp only [List.mem_singleton] at hy; omega))
    unfold put3 at hwz
    rw [← hwz]
    clear hwz
    obtain ⟨z0, z1, z2, zf⟩ := blk3 HZB.out
    refine bodyPost_ret (v := .tuple #[prN, .int .i64 E]) (by simp [results, Tryz.results13, go_sem, prN, z0, z1, z2]) rfl ?_
    rw [HRQ.out]
    exact ⟨HXZ.out, Or.inl ⟨HZ.out, rfl⟩⟩
  · have HX1 := Lib.hid (HXA.out.trans hx1)
    have HB11 := Lib.hid (hx1.blk HB1.out)
    have HB21 := Lib.hid (hx1.blk HB2.out)
    have HLS := Lib.hid hls
    subst hz
    obtain ⟨la, ln, lc, bm, fa', fn', fc'⟩ := lv
    have HVV := Lib.hid (fun (N : List Nat) W (hW : Ext w1 W) hN => HVA.out rfl ⟨la, ln, lc, bm, fa', fn', fc'⟩ N W (HX1.out.trans hW) hN (HLS.out.ext hW))
    clear hx1 hls e0 ef f0 f1 f2 f3 f4 f5 ff HCK HVA
    unfold LossV.val at *
    simp only at *
    go_upto_region 2 with fail
    obtain ⟨y, hy⟩ : ∃ y : Nat, y = w1.heap.size := ⟨_, rfl⟩
    obtain ⟨w2, hw2⟩ : ∃ w2, w2 = w1.alloc (.cells #[.slice la ln lc, .map (some bm), .slice fa' fn' fc'] 71) := ⟨_, rfl⟩
    have hx2 : Ext w1 w2 := by rw [hw2]; exact (Ext.refl _).alloc _
    have HBL := Lib.hid (show w2.heap[y]? = some (.cells #[.slice la ln lc, .map (some bm), .slice fa' fn' fc'] 71 (0, 0)) by rw [hw2, hy]; exact alloc_new w1 _)
    rw [← hw2, ← hy]
    clear hw2 hy
    have HX2 := Lib.hid (HX1.out.trans hx2)
    have HB22 := Lib.hid (hx2.blk HB21.out)
    obtain ⟨f0, f1, f2, f3, f4, f5, ff⟩ := blk6 (hx2.blk HB11.out)
    obtain ⟨l0, l1, l2, lf⟩ := blk3 HBL.out
    have HVW := Lib.hid (fun (N : List Nat) hN => HVV.out N w2 hx2 hN)
    clear hx2 HB11 HB21 HVV
    go_wp2_with fail
    refine (HVW.out ((w.heap.size + 1 + 1) :: M) (fun z hz => by
      have h1 := blk_lt HB22.out
      have h2 := HX2.out.size
      simp only [List.mem_cons] at hz
      rcases hz with rfl | hz
      · omega
      · have := HM.out z hz; omega)).mono ?_
    rintro r w5 ⟨pv, rfl, hpv, hx5⟩
    have HX5 := Lib.hid (HX2.out.trans hx5)
    have HB25 := Lib.hid (hx5.blk HB22.out)
    have HPV := Lib.hid hpv
    clear hx5 hpv f0 f1 f2 f3 f4 f5 ff l0 l1 l2 lf
    obtain ⟨pb, pk, pa, pn, pc⟩ := pv
    unfold PrV.val
    obtain ⟨r0, r1, r2, rf⟩ := blk3 HB25.out
    have hltr := blk_lt HB25.out
    have HZ := Lib.hid (prove_fin (w := w) (M := M) (pv := ⟨pb, pk, pa, pn, pc⟩) HB25.out (by omega) HX5.out HPV.out)
    simp only at HZ
    go_wp2_with fail
    obtain ⟨wz, hwz⟩ : ∃ wz, wz = put3 w5 (w.heap.size + 1 + 1) (.bool pb) (.int .i64 pk) (.slice pa pn pc) := ⟨_, rfl⟩
    rw [← hwz] at HZ
    unfold put3 at hwz
    rw [← hwz]
    clear hwz
    obtain ⟨z0, z1, z2, zf⟩ := blk3 HZ.out.1
    refine bodyPost_ret (v := .tuple #[PrV.val ⟨pb, pk, pa, pn, pc⟩, .int .i64 0]) (by simp [results, Tryz.results13, go_sem, PrV.val, z0, z1, z2]) rfl ?_
    rw [HRQ.out]
    obtain ⟨pv', hpe, hpi, hpx⟩ := HZ.out.2
    exact ⟨hpx, Or.inr ⟨by first | rfl | trivial, pv', by
      have : (PrV.val ⟨pb, pk, pa, pn, pc⟩) = pv'.val := by simpa using hpe
      rw [this], hpi⟩⟩
end Go.Proofs.YtpkljcgihobaiaaGreatDoor
