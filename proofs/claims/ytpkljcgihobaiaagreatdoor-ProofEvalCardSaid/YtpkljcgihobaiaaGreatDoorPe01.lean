/-
  Texts of the claim, joined: Slim, RBack, RExprE, EvalE, SetRow, Eval, Made11, World11.
-/
import Derived.Test.YtpkljcgihobaiaaGreatDoorDu01
import Derived.Test.YtpkljcgihobaiaaGreatDoorDu02
import Derived.Test.YtpkljcgihobaiaaGreatDoorDu03
import Derived.Test.YtpkljcgihobaiaaGreatDoorDu04
import Derived.Test.YtpkljcgihobaiaaGreatDoorDu05
import Derived.Test.YtpkljcgihobaiaaGreatDoorDu06
import Derived.Test.YtpkljcgihobaiaaGreatDoorDu07
import Derived.Test.YtpkljcgihobaiaaGreatDoorDu08
import Derived.Test.YtpkljcgihobaiaaGreatDoorDu09
import Derived.Test.YtpkljcgihobaiaaGreatDoorDu10
import Derived.Test.YtpkljcgihobaiaaGreatDoorDu11
import Derived.Test.YtpkljcgihobaiaaGreatDoorDu12
import Derived.Test.YtpkljcgihobaiaaGreatDoorDu13
import Derived.Test.YtpkljcgihobaiaaGreatDoorDu14
import Derived.Test.YtpkljcgihobaiaaGreatDoorDu15
import Derived.Test.YtpkljcgihobaiaaGreatDoorDu16
import Derived.Test.YtpkljcgihobaiaaGreatDoorDu17
import Derived.Test.YtpkljcgihobaiaaGreatDoorDu18
import Derived.Test.YtpkljcgihobaiaaGreatDoorDu19
import Derived.Test.YtpkljcgihobaiaaGreatDoorDu20
import Derived.Test.YtpkljcgihobaiaaGreatDoorDu21
import Derived.Test.YtpkljcgihobaiaaGreatDoorDu22
import Derived.Test.YtpkljcgihobaiaaGreatDoorDu23
import Derived.Test.YtpkljcgihobaiaaGreatDoorDu24
import Derived.Test.YtpkljcgihobaiaaGreatDoorDu25
import Derived.Test.YtpkljcgihobaiaaGreatDoorDu26
import Derived.Test.YtpkljcgihobaiaaGreatDoorProg
import Derived.WalkKit
import Derived.Deep.QuietTactic
import Derived.BigQuiet
import Derived.Lib.Hide
import Derived.WalkMore
import Derived.Deep.LoopGhost
import Derived.Deep.AppendLies
import Derived.Deep.RegionLaw
import Derived.RegionTactic
import Derived.IntWalk
import Derived.Maps.OwnSet
import Derived.Sort.KeysCollected
import Derived.Deep.DeepCutAuto
import Derived.StillTailTactics
import Derived.StringKeys
import Derived.Maps.Range
import Derived.Lib.Builder
import Derived.Orders
import Derived.Outline
import Derived.Maps.AppendAt
import Derived.Laws.Cover1
import Derived.Sort.Walk0
import Derived.Shelf.SlGeneric
import Derived.Shelf.SlIter.Nil
import Derived.Shelf.SortM.Plain
import Derived.Shelf.SortM.SortNone
import Derived.Ground.GgzProg
import Derived.Ground.SlgmProg
import Derived.BigFrame
import Derived.Laws.BytesString
namespace Go.Proofs.YtpkljcgihobaiaaGreatDoor

/-! Expressions of any size, each with a bounded number of arguments. -/
theorem slim_mk {op lo hi : Int} {name : ByteArray} {words : List ByteArray} {args : List Ex} (h1 : args.length ≤ 1000000000000000) (h2 : ∀ x ∈ args, x.slim) : (Ex.mk op name words lo hi args).slim := by
  unfold Ex.slim; exact ⟨h1, (slimAll_iff _).2 h2⟩
end Go.Proofs.YtpkljcgihobaiaaGreatDoor

namespace Go.Proofs.YtpkljcgihobaiaaGreatDoor
open Go.RowKit

theorem wbFits_of : (l : List Wb) → (∀ x ∈ l, x.fit) → wbFits l
  | [], _ => by unfold wbFits; trivial
  | .mk n c u :: r, h => by
    unfold wbFits
    obtain ⟨h1, h2, h3, h4, h5, h6⟩ := h _ List.mem_cons_self
    exact ⟨h1, h2, h3, h4, h5, h6, wbFits_of r fun x hx => h x (by simp [hx])⟩
end Go.Proofs.YtpkljcgihobaiaaGreatDoor

namespace Go.Proofs.YtpkljcgihobaiaaGreatDoor
open Go.RowKit

/-! The reference's ExprError. -/
set_option maxRecDepth 100000 in
set_option maxHeartbeats 8000000 in
theorem rExprErr_calls (s : List Attr) (l : List Cla) (a : Option Addr) (n c : Nat) (e : Ex) (ev sv : Value) (w : World) (hf : ∀ x ∈ s, x.fits) (hsl : s.length ≤ 1000000000000000) (hl : IsClas w l a n c) (hn : n ≤ 1000000000000000) (hfew : e.few) (hfit : e.fits) (hslim : e.slim) (hs : IsSchema w s sv) (he : IsEx w e ev) :
    Calls Tryz.prog 34 #[sv, .slice a n c, ev] w (GivesE (.int .i64 (exprErr s l e)) w) := by
  obtain ⟨sa, sn, sc, rfl, hsn⟩ := hs.slice
  have HV := Lib.hid (fun (W : World) (hW : Ext w W) => rSchema_calls s (.agg #[.slice sa sn sc]) W (hs.ext hW) hf hsl)
  have HD := Lib.hid (fun (W : World) (hW : Ext w W) => rexpr_slim e ev W (he.ext hW) hslim hfit hfew)
  have HX := Lib.hid (fun (W : World) (hW : Ext w W) (hz : refExprB e = true) => rnodesErr_calls s l hf hsl a n c hn e.size e ev (.agg #[.slice sa sn sc]) W (Nat.le_refl _) (by
    rw [refExprB, Bool.and_eq_true, Bool.and_eq_true] at hz
    have h2 := hz.1.2
    simp only [decide_eq_true_eq] at h2
    unfold refSize at h2; omega) hfew (hs.ext hW) (hl.ext hW) (he.ext hW))
  obtain ⟨aw, nw, cw, aa, na, ca, rfl, -⟩ := he.parts
  obtain ⟨R, hR⟩ : ∃ R, R = exprErr s l e := ⟨_, rfl⟩
  rw [← hR]
  have HR := Lib.hid (show R = if schemaErr s ≠ 0 then schemaErr s else if refExprB e = false then 5 else nodesErr s l e from hR)
  obtain ⟨E, hE⟩ : ∃ E, E = schemaErr s := ⟨_, rfl⟩
  rw [← hE] at HV HR
  obtain ⟨N, hN⟩ : ∃ N, N = nodesErr s l e := ⟨_, rfl⟩
  rw [← hN] at HR HX
  obtain ⟨B, hB⟩ : ∃ B, B = refExprB e := ⟨_, rfl⟩
  rw [← hB] at HR HX HD
  clear hf hl hfew hfit hslim hs he hR hsn hE hN hB
  unfold exV at *
  obtain ⟨wa, hwa⟩ : ∃ wa, wa = (w.alloc (.cells #[.slice sa sn sc] 31)).alloc (.cells #[.int .i64 e.op, .string e.name, .slice aw nw cw, .int .i64 e.lo, .int .i64 e.hi, .slice aa na ca] 26) := ⟨_, rfl⟩
  have hxa : Ext w wa := by rw [hwa]; exact ((Ext.refl _).alloc _).alloc _
  have hb0 : wa.heap[w.heap.size]? = some (.cells #[.slice sa sn sc] 31 (0, 0)) := by rw [hwa]; exact blk_alloc (alloc_new w _)
  have hb1 : wa.heap[w.heap.size + 1]? = some (.cells #[.int .i64 e.op, .string e.name, .slice aw nw cw, .int .i64 e.lo, .int .i64 e.hi, .slice aa na ca] 26 (0, 0)) := by rw [hwa]; exact alloc_atR (by simp)
  have HXA := Lib.hid hxa
  have HB0 := Lib.hid hb0
  have HB1 := Lib.hid hb1
  obtain ⟨a0, af⟩ := blk1 hb0
  have hlt1 := blk_lt hb1
  have HV1 := Lib.hid (HV.out wa hxa)
  clear hxa hb0 hb1 HV
  go_enter Tryz.func34, Tryz.ntmps34
  go_upto_region 1 with fail
  rw [← hwa]
  clear hwa
  go_wp2_with fail
  refine HV1.out.mono ?_
  rintro r w3 ⟨rfl, hx3⟩
  have HX3 := Lib.hid (HXA.out.trans hx3)
  have HB03 := Lib.hid (hx3.blk HB0.out)
  have HB13 := Lib.hid (hx3.blk HB1.out)
  clear hx3 a0 af hlt1 HV1
  by_cases hz : E = 0
  case neg =>
    have tz : (E != 0) = true := by simp [hz]
    have HQ := Lib.hid (show R = E by rw [HR.out, if_pos hz])
    clear hz
    go_wp2_with fail
    go_ret
    exact givesE_of (by rw [HQ.out]) HX3.out
  have tz : (E != 0) = false := by simp [hz]
  have HQ := Lib.hid (show R = if B = false then 5 else N by rw [HR.out, if_neg (by simpa using hz)])
  clear hz HR
  obtain ⟨f0, f1, f2, f3, f4, f5, ff⟩ := blk6 HB13.out
  have hlt1 := blk_lt HB13.out
  go_wp2_with fail
  refine (HD.out w3 HX3.out).mono ?_
  rintro r w5 ⟨rfl, hx5⟩
  have HX5 := Lib.hid (HX3.out.trans hx5)
  have HB05 := Lib.hid (hx5.blk HB03.out)
  have HB15 := Lib.hid (hx5.blk HB13.out)
  clear hx5 f0 f1 f2 f3 f4 f5 ff hlt1 HD
  cases B
  · go_wp2_with fail
    go_ret
    exact givesE_of (by rw [HQ.out]; rfl) HX5.out
  · obtain ⟨a0, af⟩ := blk1 HB05.out
    obtain ⟨f0, f1, f2, f3, f4, f5, ff⟩ := blk6 HB15.out
    have hlt1 := blk_lt HB15.out
    go_wp2_with fail
    refine (HX.out w5 HX5.out (by trivial)).mono ?_
    rintro r w6 ⟨rfl, hx6⟩
    have HX6 := Lib.hid (HX5.out.trans hx6)
    clear hx6
    go_wp2_with fail
    go_ret
    exact givesE_of (by rw [HQ.out]; rfl) HX6.out
end Go.Proofs.YtpkljcgihobaiaaGreatDoor

namespace Go.Proofs.YtpkljcgihobaiaaGreatDoor
open Go.RowKit

/-! The reference's EvalError. -/
set_option maxRecDepth 100000 in
set_option maxHeartbeats 8000000 in
theorem rEvalError_calls (s : List Attr) (l : List Cla) (e : Ex) (f : List Int) (ev sv : Value) (a : Option Addr) (n c : Nat) (fa : Option Addr) (fn fc : Nat) (w : World) (hs : IsSchema w s sv) (hf : ∀ x ∈ s, x.fits) (hsl : s.length ≤ 1000000000000000) (hl : IsClas w l a n c) (hn : n ≤ 1000000) (hok : ∀ x ∈ l, x.fit) (he : IsEx w e ev) (hfew : e.few) (hfit : e.fits) (hslim : e.slim) (hi : IsIntF w f fa fn) :
    Calls Tryz.prog 14 #[sv, .slice a n c, ev, .slice fa fn fc] w (GivesE (.int .i64 (evalErr s l e f)) w) := by
  obtain ⟨sa, sn, sc, rfl, hsn⟩ := hs.slice
  have HCL := Lib.hid (fun W (hW : Ext w W) => rClauses_calls s l _ a n c W (hs.ext hW) hf hsl (hl.ext hW) (by omega) hok)
  have HEX := Lib.hid (fun W (hW : Ext w W) => rExprErr_calls s l a n c e ev _ W hf hsl (hl.ext hW) (by omega) hfew hfit hslim (hs.ext hW) (he.ext hW))
  have HXP := Lib.hid (fun (h1 : (clausesErr s l).2 = 0) (h2 : exprErr s l e = 0) W (hW : Ext w W) => rExpanded_calls l a n c hn (fun x hx => by have := (chk_of h1).size x hx; omega) e ev W (by have := ref_size (exprErr_ref h2); omega) (hl.ext hW) (he.ext hW))
  have HFC := Lib.hid (fun W (hW : Ext w W) => rFacts_calls s _ f fa fn fc W (hs.ext hW) hf hsl (hi.ext hW))
  obtain ⟨aw, nw, cw, aa, na, ca, rfl, -⟩ := he.parts
  obtain ⟨R, hR⟩ : ∃ R, R = evalErr s l e f := ⟨_, rfl⟩
  rw [← hR]
  unfold evalErr at hR
  obtain ⟨⟨i0, E1⟩, hE1⟩ : ∃ E : Nat × Int, E = clausesErr s l := ⟨_, rfl⟩
  rw [← hE1] at HCL hR
  have HXP1 := Lib.hid (fun (h1 : E1 = 0) => HXP.out (by rw [← hE1]; exact h1))
  clear HXP
  obtain ⟨E2, hE2⟩ : ∃ E, E = exprErr s l e := ⟨_, rfl⟩
  rw [← hE2] at HEX hR
  have HXP := Lib.hid (fun (h1 : E1 = 0) (h2 : E2 = 0) => HXP1.out h1 (by rw [← hE2]; exact h2))
  clear HXP1
  obtain ⟨X, hX⟩ : ∃ X, X = expanded l e := ⟨_, rfl⟩
  rw [← hX] at HXP hR
  obtain ⟨B, hB⟩ : ∃ B, B = factsB s f := ⟨_, rfl⟩
  rw [← hB] at HFC hR
  have HR := Lib.hid hR
  clear hs hf hsl hl hok he hfew hfit hslim hi hsn hR hE1 hE2 hX hB
  unfold exV at *
  obtain ⟨wa, hwa⟩ : ∃ wa, wa = (w.alloc (.cells #[.slice sa sn sc] 31)).alloc (.cells #[.int .i64 e.op, .string e.name, .slice aw nw cw, .int .i64 e.lo, .int .i64 e.hi, .slice aa na ca] 26) := ⟨_, rfl⟩
  have hxa : Ext w wa := by rw [hwa]; exact ((Ext.refl _).alloc _).alloc _
  have hb0 : wa.heap[w.heap.size]? = some (.cells #[.slice sa sn sc] 31 (0, 0)) := by rw [hwa]; exact blk_alloc (alloc_new w _)
  have hb1 : wa.heap[w.heap.size + 1]? = some (.cells #[.int .i64 e.op, .string e.name, .slice aw nw cw, .int .i64 e.lo, .int .i64 e.hi, .slice aa na ca] 26 (0, 0)) := by rw [hwa]; exact alloc_atR (by simp)
  have HXA := Lib.hid hxa
  have HB0 := Lib.hid hb0
  have HB1 := Lib.hid hb1
  obtain ⟨e0, ef⟩ := blk1 hb0
  clear hxa hb0 hb1
  unfold clsV at HCL
  go_enter Tryz.func14, Tryz.ntmps14
  go_upto_region 1 with fail
  rw [← hwa]
  clear hwa
  go_wp2_with fail
  refine (HCL.out wa HXA.out).mono ?_
  rintro r w1 ⟨rfl, hx1⟩
  have HX1 := Lib.hid (HXA.out.trans hx1)
  have HB01 := Lib.hid (hx1.blk HB0.out)
  have HB11 := Lib.hid (hx1.blk HB1.out)
  clear hx1 e0 ef HCL
  by_cases h1 : E1 = 0
  case neg =>
    have t1 : (E1 != 0) = true := by simp [h1]
    have HQ := Lib.hid (show R = E1 by rw [HR.out, if_pos h1])
    clear h1
    go_wp2_with fail
    go_ret
    exact givesE_of (by rw [HQ.out]) HX1.out
  have t1 : (E1 != 0) = false := by simp [h1]
  have HR2 := Lib.hid (show R = if E2 ≠ 0 then E2 else if 2000 < X then 4 else if B = false then 16 else 0 by rw [HR.out, if_neg (by simpa using h1)])
  have HXP1 := Lib.hid (HXP.out h1)
  clear h1 HR HXP
  obtain ⟨e0, ef⟩ := blk1 HB01.out
  obtain ⟨f0, f1, f2, f3, f4, f5, ff⟩ := blk6 HB11.out
  go_wp2_with fail
  refine (HEX.out w1 HX1.out).mono ?_
  rintro r w2 ⟨rfl, hx2⟩
  have HX2 := Lib.hid (HX1.out.trans hx2)
  have HB02 := Lib.hid (hx2.blk HB01.out)
  have HB12 := Lib.hid (hx2.blk HB11.out)
  clear hx2 e0 ef f0 f1 f2 f3 f4 f5 ff HEX
  by_cases h2 : E2 = 0
  case neg =>
    have t2 : (E2 != 0) = true := by simp [h2]
    have HQ := Lib.hid (show R = E2 by rw [HR2.out, if_pos h2])
    clear h2
    go_wp2_with fail
    go_ret
    exact givesE_of (by rw [HQ.out]) HX2.out
  have t2 : (E2 != 0) = false := by simp [h2]
  have HR3 := Lib.hid (show R = if 2000 < X then 4 else if B = false then 16 else 0 by rw [HR2.out, if_neg (by simpa using h2)])
  have HXP2 := Lib.hid (HXP1.out h2)
  clear h2 HR2 HXP1
  obtain ⟨f0, f1, f2, f3, f4, f5, ff⟩ := blk6 HB12.out
  go_wp2_with fail
  refine (HXP2.out w2 HX2.out).mono ?_
  rintro r w3 ⟨rfl, hx3⟩
  have HX3 := Lib.hid (HX2.out.trans hx3)
  have HB03 := Lib.hid (hx3.blk HB02.out)
  clear hx3 f0 f1 f2 f3 f4 f5 ff HXP2
  by_cases h3 : 2000 < X
  case pos =>
    have t3 : decide ((2000 : Int) < (X : Int)) = true := decide_eq_true (by omega)
    have HQ := Lib.hid (show R = 4 by rw [HR3.out, if_pos h3])
    clear h3
    go_wp2_with fail
    go_ret
    exact givesE_of (by rw [HQ.out]) HX3.out
  have t3 : decide ((2000 : Int) < (X : Int)) = false := decide_eq_false (by omega)
  have HR4 := Lib.hid (show R = if B = false then 16 else 0 by rw [HR3.out, if_neg h3])
  clear h3 HR3
  obtain ⟨e0, ef⟩ := blk1 HB03.out
  go_wp2_with fail
  refine (HFC.out w3 HX3.out).mono ?_
  rintro r w4 ⟨rfl, hx4⟩
  have HX4 := Lib.hid (HX3.out.trans hx4)
  clear hx4
  cases B
  · have HQ := Lib.hid (show R = 16 by rw [HR4.out]; rfl)
    go_wp2_with fail
    go_ret
    exact givesE_of (by rw [HQ.out]) HX4.out
  · have HQ := Lib.hid (show R = 0 by rw [HR4.out]; rfl)
    go_wp2_with fail
    go_ret
    exact givesE_of (by rw [HQ.out]) HX4.out
end Go.Proofs.YtpkljcgihobaiaaGreatDoor

namespace Go.Proofs.YtpkljcgihobaiaaGreatDoor
open Go.RowKit

/-! Append of all of a slice; a row's element set anew. -/
/-- append of a slice of length 0. -/
theorem run_append_zero {P : Program} (W : World) (t ty e : TypeId) (i : TypeInfo) (ht : P.underlying t = some (.slice e)) (hi : P.info? e = some i) (b : Option Addr) (n cap : Nat) (hnc : n ≤ cap) (ax : Option Addr) (c : Nat) :
    (Builtin.append_ #[t, t] ty #[.slice b n cap, .slice ax 0 c]).run P W = .ok (.slice b n cap) W := by
  cases b <;> cases ax <;> simp [Builtin.append_, run_underlying ht, sizeOf, typeInfo, hi, Builtin.lenOf, Builtin.firstCells, hnc, storeCells, loadCells, loadCellsFrom]
/-- append of all elements of a slice that lies in memory, of none too. -/
theorem wpList_append_all {t e : TypeId} {z : Value} {size bytes : Nat} (E : ElemT t e z size bytes) {ops : Array Oper} {rest : List Oper} {o : Oper} {a : Act} {Q : Exit → Act → World → Prop} {W : World}
    (hgd : o.guard = none) (s x : Operand) (ho : o.op = .call { callee := .builtin .append, args := #[s, x], argTypes := #[t, t] }) (base : Nat) (v : Value) (n : Nat) (xs : List Value) (hs : a.eval s = v) (hown : W.ownsRow base e size v n xs)
    (ax : Option Addr) (m c : Nat) (news : List Value) (hx : a.eval x = .slice ax m c) (hl : news.length = m * size) (hnews : 0 < m → ∃ b off, ax = some ⟨b, off, none⟩ ∧ ∀ j (h : j < news.length), W.cell? ⟨b, off + j, none⟩ = some news[j]) (h1 : ∀ u ∈ news, u.oneCell' = true)
    (hn : n + m ≤ 100000000) (hb : bytes ≤ 1000) (hbase : base ≤ W.heap.size)
    (h : ∀ v' w', w'.ownsRow base e size v' (n + m) (xs ++ news) → W.grownBy w' v.ownBlock → (∀ k, v'.ownBlock = some k → v.ownBlock = some k ∨ k = W.heap.size) → wpList Tryz.prog ops Q rest (a.put o.dst v') w') : wpList Tryz.prog ops Q (o :: rest) a W := by
  obtain ⟨i, hi, hz, hsz, hby⟩ := info_parts E.info
  by_cases hm : m = 0
  · subst hm
    have hnil : news = [] := List.eq_nil_of_length_eq_zero (by simpa using hl)
    subst hnil
    obtain ⟨b, cap, rfl, hnc⟩ : ∃ b cap, v = .slice b n cap ∧ n ≤ cap := by
      rcases hown.2 with ⟨rfl, rfl⟩ | ⟨g, cap, cur, rfl, _, _, hnc, _⟩
      · exact ⟨none, 0, rfl, by omega⟩
      · exact ⟨_, cap, rfl, hnc⟩
    refine wpList_plain hgd fun K hK => ?_
    have hrun := run_append_zero (P := Tryz.prog) W t o.type e i E.ht hi b n cap hnc ax c
    unfold Oper.wp
    simp [execOp, ho, resolve, invoke, builtin, hs, hx, hrun, Result.andThen]
    refine hK _ _ (h _ _ (by simpa using hown) ⟨rfl, rfl, rfl, Nat.le_refl _, fun _ _ _ => rfl⟩ (fun k hk => Or.inl hk))
  · obtain ⟨b, off, rfl, hcell⟩ := hnews (by omega)
    refine wpList_append_lies W hgd s x t ho base e i z size bytes E.ht hi hz hsz hby E.hzs E.hsz v n xs hs hown ⟨b, off, none⟩ m c news hx hl ?_ h1 (by omega) (by simp only [maxLen]; omega) (by
      calc (n + m) * bytes ≤ 100000000 * 1000 := Nat.mul_le_mul hn hb
        _ ≤ 140737488355328 := by omega) hbase _ rfl ?_
    · intro j u hu
      obtain ⟨hj, rfl⟩ := List.getElem?_eq_some_iff.1 hu
      have : (⟨b, off, none⟩ : Addr).add j = ⟨b, off + j, none⟩ := by unfold Addr.add; split <;> simp_all
      rw [this]
      exact hcell j hj
    · intro g cap w' h2 h3 h4 _
      refine h _ w' h2 h3 fun k hk => ?_
      simp only [Value.ownBlock] at hk
      injection hk with hk
      subst hk
      exact h4
end Go.Proofs.YtpkljcgihobaiaaGreatDoor

namespace Go.Proofs.YtpkljcgihobaiaaGreatDoor
open Go.RowKit Go.Maps

/-! proof.Eval. -/
theorem In11.evalError {w : World} {s : List Attr} {l : List Cla} {e : Ex} {f : List Int} {sv ev : Value} {a : Option Addr} {n c : Nat} {fa : Option Addr} {fn : Nat} (h : In11 w s l e f sv ev a n c fa fn) (fc : Nat) : Calls Tryz.prog 14 #[sv, .slice a n c, ev, .slice fa fn fc] w (GivesE (.int .i64 (evalErr s l e f)) w) :=
  rEvalError_calls s l e f ev sv a n c fa fn fc w h.sch h.sfit h.slen h.clas h.cn h.cfit h.ex h.few h.fit h.slim h.ints
end Go.Proofs.YtpkljcgihobaiaaGreatDoor

namespace Go.Proofs.YtpkljcgihobaiaaGreatDoor
open Go.RowKit

/-! treatylaw11.made: a world. -/
theorem IsWorld.ok {w : World} {s : List Attr} {l : List Cla} {x : Ex} {f : List Int} {v : WorldV} (h : IsWorld w s l x f v) : Ok11 s l x f := h.term.ok (by omega) (by omega) (by omega) h.cls h.facts
theorem IsWorld.fnl {w : World} {s : List Attr} {l : List Cla} {x : Ex} {f : List Int} {v : WorldV} (h : IsWorld w s l x f v) : v.fn ≤ 1000 := by
  rw [h.ints.1, factsAll_len h.facts]; exact (schemas_ok s h.mem).2.2
end Go.Proofs.YtpkljcgihobaiaaGreatDoor

namespace Go.Proofs.YtpkljcgihobaiaaGreatDoor
open Go.RowKit

/-! What the statements of layer 11 ask of a world; expressions put together. -/
theorem IsWorld.own11 {w : World} {s : List Attr} {l : List Cla} {x : Ex} {f : List Int} {v : WorldV} (h : IsWorld w s l x f v) (ho : HasOps w) : In11 w s l x f (.agg #[.slice v.sa v.sn v.sc]) v.x.val v.la v.ln v.lc v.fa v.fn :=
  h.in11 ho h.ex h.okay.few h.okay.fits (slim_of_size _ (by have := h.okay.size; simp [bndS] at this; omega)) h.ints (by have := h.fnl; omega)
end Go.Proofs.YtpkljcgihobaiaaGreatDoor
