/-
  Texts of the claim, joined: CNodes, CExpr, RExprE, SetRow.
-/
import Derived.Test.YtfjlglefodndjaaGreatDoorCe14
import Derived.Test.YtfjlglefodndjaaGreatDoorCe13
import Derived.Test.YtfjlglefodndjaaGreatDoorCe15
import Derived.Test.YtfjlglefodndjaaGreatDoorCe18
import Derived.Test.YtfjlglefodndjaaGreatDoorCe16
import Derived.Test.YtfjlglefodndjaaGreatDoorCe06
import Derived.Test.YtfjlglefodndjaaGreatDoorCe08
namespace Go.Proofs.YtfjlglefodndjaaGreatDoor
open Go.RowKit Go.Maps

/-! check.nodes, check.expression, check.Expr. -/
theorem firstI_all {f : Nat → Int} {n : Nat} (h : (firstI f n).2 = 0) : ∀ j, j < n → f j = 0 := by
  induction n with
  | zero => intro j hj; omega
  | succ n ih =>
    intro j hj
    rw [firstI] at h
    by_cases h1 : (firstI f n).2 ≠ 0
    · rw [if_pos h1] at h; exact absurd h h1
    · rw [if_neg h1] at h
      by_cases h2 : f n ≠ 0
      · rw [if_pos h2] at h; exact absurd h h2
      · by_cases e : j = n
        · subst e; simpa using h2
        · exact ih (by simpa using h1) j (by omega)
theorem schema_attrErr {s : List Attr} (h : schemaErr s = 0) {i : Nat} (hi : i < s.length) : attrErr s[i] = 0 := by
  unfold schemaErr at h
  by_cases h0 : s.length = 0
  · rw [if_pos h0] at h; cases h
  · rw [if_neg h0] at h
    by_cases h6 : 6 < s.length
    · rw [if_pos h6] at h; cases h
    · rw [if_neg h6] at h
      have := firstI_all h i hi
      unfold attrIErr at this
      rw [getD_attr hi] at this
      split at this
      · cases this
      · split at this
        · cases this
        · exact this
theorem attr_lohi {a : Attr} (h : attrErr a = 0) (hk : a.kind = 1 ∨ a.kind = 3) : a.lo = 0 ∧ a.hi = 0 := by
  unfold attrErr at h
  rcases hk with hk | hk
  · rw [if_pos hk] at h
    split at h
    · cases h
    · rename_i h1
      omega
  · rw [if_neg (by omega), if_neg (by omega), if_pos hk] at h
    split at h
    · cases h
    · rename_i h1
      omega
theorem cnode_eq {s : List Attr} {l : List Cla} (hs : schemaErr s = 0) {e : Ex} (he : okNode e) : cnodeErr s l e.op e.name e.words e.lo e.hi = nodeErr s l e.op e.name e.words e.lo e.hi := by
  have key : ∀ (ws vs : List ByteArray), (ws.all fun x => decide (x ∈ vs)) = ws.all fun x => vs.any fun y => decide (y = x) := by
    intro ws vs
    congr 1
    funext x
    rw [Bool.eq_iff_iff]
    simp
  rcases he with ⟨h1, h2, h3, h4, h5, h6⟩ | ⟨h1, h2, h3, h4, h5, h6⟩ | ⟨h1, h2, h3, h4, h5, h6⟩ | ⟨h1, h2, h3, h4, h5, h6⟩ | ⟨h1, h2, h3, h4, h5, h6⟩ | ⟨h1, h2, h3, h4, h5, h6⟩ | ⟨h1, h2, h3, h4, h5, h6⟩
  · rw [h1]; rfl
  · rw [h1]; rfl
  · rw [h1, h3, h4, h5]
    cases ho : attrAt s e.name with
    | none =>
      rw [cnode_none (by decide) ho]
      simp [nodeErr, ho]
    | some i =>
      have hi := attrAt_lt ho
      have e5 : nodeErr s l 3 e.name [] 0 0 = if s[i].kind ≠ 3 then 9 else 0 := by
        unfold nodeErr
        rw [if_pos rfl, ho]
        simp only [getD_attr hi]
      rw [cnode_some (by decide) ho hi, e5, show kindFor 3 = 3 from rfl]
      by_cases hk : s[i].kind = 3
      · have := attr_lohi (schema_attrErr hs hi) (Or.inr hk)
        rw [this.1, this.2]
        simp [hk]
      · rw [if_pos hk, if_pos hk]
  · rw [h1, h4, h5]
    cases ho : attrAt s e.name with
    | none =>
      rw [cnode_none (by decide) ho]
      simp [nodeErr, ho]
    | some i =>
      have hi := attrAt_lt ho
      have e5 : nodeErr s l 4 e.name e.words 0 0 = if s[i].kind ≠ 1 then 9 else if (e.words.all fun x => s[i].words.any fun y => decide (y = x)) = false then 7 else 0 := by
        unfold nodeErr
        rw [if_neg (show ¬ (4 : Int) = 3 by decide), if_pos rfl, ho]
        simp only [getD_attr hi]
      rw [cnode_some (by decide) ho hi, e5, show kindFor 4 = 1 from rfl]
      by_cases hk : s[i].kind = 1
      · have := attr_lohi (schema_attrErr hs hi) (Or.inl hk)
        rw [this.1, this.2, key]
        simp [hk]
      · rw [if_pos hk, if_pos hk]
  · rw [h1, h3]
    cases ho : attrAt s e.name with
    | none =>
      rw [cnode_none (by decide) ho]
      simp [nodeErr, ho]
    | some i =>
      have hi := attrAt_lt ho
      have e5 : nodeErr s l 5 e.name [] e.lo e.hi = if s[i].kind ≠ 2 then 9 else if e.lo < s[i].lo ∨ s[i].hi < e.hi then 1 else 0 := by
        unfold nodeErr
        rw [if_neg (show ¬ (5 : Int) = 3 by decide), if_neg (show ¬ (5 : Int) = 4 by decide), if_pos rfl, ho]
        simp only [getD_attr hi]
      rw [cnode_some (by decide) ho hi, e5, show kindFor 5 = 2 from rfl]
      simp
  · rw [h1]; rfl
  · rcases h1 with h1 | h1 <;> (rw [h1]; rfl)
set_option maxRecDepth 100000 in
set_option maxHeartbeats 4000000 in
theorem cnodes_calls (s : List Attr) (hse : schemaErr s = 0) (l : List Cla) (hf : ∀ x ∈ s, x.fits) (hsl : s.length ≤ 1000000000000000) (bm nm : Nat) (m : Nat) : ∀ (e : Ex) (ev sv : Value) (w : World), e.size ≤ m → m ≤ 1000000000000000 → e.few → e.fits → okTree e → IsSchema w s sv → DefsAt w l bm nm → IsEx w e ev →
    Calls Tryz.prog 53 #[sv, .map (some bm), ev] w (GivesE (.int .i64 (nodesErr s l e)) w) := by
  induction m with
  | zero => intro e ev sv w h; have := size_pos e; omega
  | succ m ih =>
    intro e ev sv w hm hMM hfew hfit hok hs hd he
    obtain ⟨sa, sn, sc, rfl, hsn⟩ := hs.slice
    obtain ⟨hfw, hfa⟩ := few_parts hfew
    obtain ⟨hen, hft⟩ := fits_parts2 hfit
    have HN0 := Lib.hid (fun (W : World) (h1 : IsSchema W s (.agg #[.slice sa sn sc])) (h2 : DefsAt W l bm nm) (h3 : IsEx W e ev) => cnode_calls s (.agg #[.slice sa sn sc]) l bm nm e ev W h1 hf hsl h2 h3 hfw hen)
    rw [cnode_eq hse (okTree_parts hok).1] at HN0
    obtain ⟨aw, nw, cw, aa, na, ca, rfl, hw, hna, hca, ha, hx⟩ := he.parts
    have hS : e.size = 1 + sizes e.args := e.size_eq
    have hla := length_le_sizes e.args
    have hna2 : na ≤ 1000000000000000 := by omega
    have hsz : sizes e.args ≤ m := by omega
    have HE := Lib.hid he
    have HS := Lib.hid hs
    have HD := Lib.hid hd
    have HX := Lib.hid hx
    have HNA := Lib.hid hna
    have HFT := Lib.hid hft
    have HFA := Lib.hid hfa
    have HOK := Lib.hid (okTree_parts hok).2
    have HEQ := Lib.hid (nodesErr_eq s l e)
    have IH := Lib.hid ih
    clear hs hd he hx hna hw hca ha hS hla hsn hfw hfa hfew ih hf hm hft hfit hok
    unfold exV at *
    obtain ⟨wa, hwa⟩ : ∃ wa, wa = (w.alloc (.cells #[.slice sa sn sc] 24)).alloc (.cells #[.int .i64 e.op, .string e.name, .slice aw nw cw, .int .i64 e.lo, .int .i64 e.hi, .slice aa na ca] 29) := ⟨_, rfl⟩
    have hxa : Ext w wa := by rw [hwa]; exact ((Ext.refl _).alloc _).alloc _
    have hb0 : wa.heap[w.heap.size]? = some (.cells #[.slice sa sn sc] 24 (0, 0)) := by rw [hwa]; exact blk_alloc (alloc_new w _)
    have hb1 : wa.heap[w.heap.size + 1]? = some (.cells #[.int .i64 e.op, .string e.name, .slice aw nw cw, .int .i64 e.lo, .int .i64 e.hi, .slice aa na ca] 29 (0, 0)) := by rw [hwa]; exact alloc_atR (by simp)
    have HXA := Lib.hid hxa
    have HB0 := Lib.hid hb0
    have HB1 := Lib.hid hb1
    obtain ⟨a0, af⟩ := blk1 hb0
    obtain ⟨b0, b1, b2, b3, b4, b5, bf⟩ := blk6 hb1
    have hlt1 := blk_lt hb1
    have HN1 := Lib.hid (HN0.out wa (HS.out.ext hxa) (HD.out.ext hxa) (HE.out.ext hxa))
    clear hxa hb0 hb1 HN0
    obtain ⟨N, hN⟩ : ∃ N, N = nodeErr s l e.op e.name e.words e.lo e.hi := ⟨_, rfl⟩
    rw [← hN] at HN1 HEQ
    obtain ⟨E, hE⟩ : ∃ E, E = nodesErr s l e := ⟨_, rfl⟩
    rw [← hE] at HEQ ⊢
    clear hN hE
    go_enter Tryz.func53, Tryz.ntmps53
    go_upto_region 1 with fail
    rw [← hwa]
    clear hwa
    go_wp2_with fail
    refine HN1.out.mono ?_
    rintro r w3 ⟨rfl, hx3⟩
    have HX3 := Lib.hid (HXA.out.trans hx3)
    have HB03 := Lib.hid (hx3.blk HB0.out)
    have HB13 := Lib.hid (hx3.blk HB1.out)
    clear hx3 a0 af b0 b1 b2 b3 b4 b5 bf hlt1
    by_cases hz : N = 0
    case neg =>
      have tz : (N != 0) = true := by simp [hz]
      have HQ := Lib.hid (show E = N by rw [HEQ.out, if_pos hz])
      clear hz
      go_wp2_with fail
      go_ret
      exact givesE_of (by rw [HQ.out]) HX3.out
    have tz : (N != 0) = false := by simp [hz]
    have HQ := Lib.hid (show E = nodesErrL s l e.args by rw [HEQ.out, if_neg (by simpa using hz)])
    clear hz HEQ
    obtain ⟨b0, b1, b2, b3, b4, b5, bf⟩ := blk6 HB13.out
    have hlt1 := blk_lt HB13.out
    go_wp2_with fail
    clear b0 b1 b2 b3 b4 b5 bf hlt1
    go_loopw [21] (fun t wr => ∃ k : Nat, t = .int .i64 k ∧ k ≤ na ∧ (∀ j (h : j < e.args.length), j < k → nodesErr s l e.args[j] = 0) ∧ wr.heap[w.heap.size]? = some (.cells #[.slice sa sn sc] 24 (0, 0)) ∧ Ext w wr) (fun t _ => na - (intOf t).toNat)
    case atStart => exact ⟨0, rfl, by omega, fun j _ h => by omega, HB03.out, HX3.out⟩
    case round =>
      obtain ⟨k, rfl, hk, hall, hbx, hxr⟩ := hrel
      have HALL := Lib.hid hall
      have HBX := Lib.hid hbx
      have HXR := Lib.hid hxr
      obtain ⟨a0, af⟩ := blk1 hbx
      have hlt0 := blk_lt hbx
      clear hall hbx hxr
      by_cases hkn : k < na
      · have hka : k < e.args.length := by have := HNA.out; omega
        have t1 : decide ((k : Int) < (na : Int)) = true := decide_eq_true (by omega)
        obtain ⟨b, off, rfl, aw1, nw1, cw1, aa1, na1, ca1, h0, h1, h2, h3, h4, h5, h6⟩ := ExsD.at e.args _ (ExsD.ext HXR.out e.args _ HX.out) k hka
        have hs1 := sizes_take_succ e.args k hka
        have hs2 := sizes_take_le e.args (k + 1)
        have hk1 : e.args[k].size ≤ m := by omega
        have hblt := block_lt h0
        simp only at hblt
        have HC := Lib.hid (fun (W : World) (hW : Ext wr W) => IH.out e.args[k] _ (.agg #[.slice sa sn sc]) W hk1 (by omega) (fewAll_at _ HFA.out k hka) (HFT.out _ (List.getElem_mem hka)) (HOK.out _ (List.getElem_mem hka)) (HS.out.ext (HXR.out.trans hW)) (HD.out.ext (HXR.out.trans hW)) (h6.ext hW))
        unfold exV at HC
        clear h6 hs1 hs2
        obtain ⟨E1, hE1⟩ : ∃ E1, E1 = nodesErr s l e.args[k] := ⟨_, rfl⟩
        rw [← hE1] at HC
        have HE1 := Lib.hid hE1
        clear hE1
        go_wp2_with fail
        refine (HC.out _ ((Ext.refl wr).alloc _)).mono ?_
        rintro r w5 ⟨rfl, hx5⟩
        have HX5 := Lib.hid ((HXR.out.alloc _).trans hx5)
        have HB5 := Lib.hid (hx5.blk (blk_alloc HBX.out))
        clear hx5 h0 h1 h2 h3 h4 h5 a0 af hlt0 HC
        by_cases hz1 : E1 = 0
        · have tz1 : (E1 != 0) = false := by simp [hz1]
          have HZ1 := Lib.hid (HE1.out.symm.trans hz1)
          clear hz1
          go_wp2_with fail
          go_roundw
          case rel =>
            refine ⟨k + 1, by go_num, by omega, fun j hj hjk => ?_, HB5.out, HX5.out⟩
            by_cases e0 : j = k
            · subst e0; exact HZ1.out
            · exact HALL.out j hj (by omega)
          case measure => simp [intOf]; omega
        · have tz1 : (E1 != 0) = true := by simp [hz1]
          have HR := Lib.hid (show E = E1 by rw [HQ.out, nodesErrL_hit e.args k hka (by rw [← HE1.out]; exact hz1) (fun j hj => HALL.out j (by omega) hj), HE1.out])
          clear hz1
          go_wp2_with fail
          go_ret
          exact givesE_of (by rw [HR.out]) HX5.out
      · have t1 : decide ((k : Int) < (na : Int)) = false := decide_eq_false (by omega)
        have HR := Lib.hid (show E = 0 by rw [HQ.out, nodesErrL_zero e.args fun j hj => HALL.out j hj (by have := HNA.out; omega)])
        go_wp2_with fail
        go_ret
        exact givesE_of (by rw [HR.out]) HXR.out
def exprnErr (s : List Attr) (l : List Cla) (e : Ex) : Int := if refExprB e = false then 5 else nodesErr s l e
def exprErr (s : List Attr) (l : List Cla) (e : Ex) : Int := if schemaErr s ≠ 0 then schemaErr s else exprnErr s l e
theorem ref_okTree {e : Ex} (h : refExprB e = true) : okTree e := by
  rw [refExprB, Bool.and_eq_true, Bool.and_eq_true] at h
  exact (nodes_ok e).1 h.2
set_option maxRecDepth 100000 in
set_option maxHeartbeats 4000000 in
theorem cexpression_calls (s : List Attr) (hse : schemaErr s = 0) (l : List Cla) (hf : ∀ x ∈ s, x.fits) (hsl : s.length ≤ 1000000000000000) (bm nm : Nat) (e : Ex) (ev sv : Value) (w : World) (hfew : e.few) (hfit : e.fits) (ho : HasOps w) (hs : IsSchema w s sv) (hd : DefsAt w l bm nm) (he : IsEx w e ev) :
    Calls Tryz.prog 24 #[sv, .map (some bm), ev] w (GivesE (.int .i64 (exprnErr s l e)) w) := by
  obtain ⟨sa, sn, sc, rfl, hsn⟩ := hs.slice
  have HV := Lib.hid (fun (W : World) (hW : Ext w W) => Valid_calls e ev W (he.ext hW) (ho.ext hW) hfit)
  have HNC := Lib.hid (fun (W : World) (hW : Ext w W) (hz : refExprB e = true) => cnodes_calls s hse l hf hsl bm nm e.size e ev (.agg #[.slice sa sn sc]) W (Nat.le_refl _) (by
    rw [refExprB, Bool.and_eq_true, Bool.and_eq_true] at hz
    have h2 := hz.1.2
    simp only [decide_eq_true_eq] at h2
    unfold refSize at h2; omega) hfew hfit (ref_okTree hz) (hs.ext hW) (hd.ext hW) (he.ext hW))
  rw [validB_ref] at HV
  obtain ⟨aw, nw, cw, aa, na, ca, rfl, -⟩ := he.parts
  obtain ⟨R, hR⟩ : ∃ R, R = exprnErr s l e := ⟨_, rfl⟩
  rw [← hR]
  have HR := Lib.hid (show R = if refExprB e = false then 5 else nodesErr s l e from hR)
  clear hf hfew hfit ho hs hd he hR hsn
  unfold exV at *
  obtain ⟨wa, hwa⟩ : ∃ wa, wa = (w.alloc (.cells #[.slice sa sn sc] 24)).alloc (.cells #[.int .i64 e.op, .string e.name, .slice aw nw cw, .int .i64 e.lo, .int .i64 e.hi, .slice aa na ca] 29) := ⟨_, rfl⟩
  have hxa : Ext w wa := by rw [hwa]; exact ((Ext.refl _).alloc _).alloc _
  have hb0 : wa.heap[w.heap.size]? = some (.cells #[.slice sa sn sc] 24 (0, 0)) := by rw [hwa]; exact blk_alloc (alloc_new w _)
  have hb1 : wa.heap[w.heap.size + 1]? = some (.cells #[.int .i64 e.op, .string e.name, .slice aw nw cw, .int .i64 e.lo, .int .i64 e.hi, .slice aa na ca] 29 (0, 0)) := by rw [hwa]; exact alloc_atR (by simp)
  have HXA := Lib.hid hxa
  have HB0 := Lib.hid hb0
  have HB1 := Lib.hid hb1
  obtain ⟨b0, b1, b2, b3, b4, b5, bf⟩ := blk6 hb1
  have hlt1 := blk_lt hb1
  have HV1 := Lib.hid (HV.out wa hxa)
  clear hxa hb0 hb1 HV
  obtain ⟨B, hB⟩ : ∃ B, B = refExprB e := ⟨_, rfl⟩
  rw [← hB] at HV1 HR
  have HBB := Lib.hid hB
  clear hB
  go_enter Tryz.func24, Tryz.ntmps24
  go_upto_region 1 with fail
  rw [← hwa]
  clear hwa
  go_wp2_with fail
  refine HV1.out.mono ?_
  rintro r w3 ⟨rfl, hx3⟩
  have HX3 := Lib.hid (HXA.out.trans hx3)
  have HB03 := Lib.hid (hx3.blk HB0.out)
  have HB13 := Lib.hid (hx3.blk HB1.out)
  clear hx3 b0 b1 b2 b3 b4 b5 bf hlt1
  cases B
  · have HF := Lib.hid (show R = 5 by rw [HR.out]; rfl)
    go_wp2_with fail
    go_ret
    exact givesE_of (by rw [HF.out]) HX3.out
  · have HF := Lib.hid (show R = nodesErr s l e by rw [HR.out]; rfl)
    obtain ⟨b0, b1, b2, b3, b4, b5, bf⟩ := blk6 HB13.out
    obtain ⟨a0, af⟩ := blk1 HB03.out
    have hlt1 := blk_lt HB13.out
    go_wp2_with fail
    refine (HNC.out w3 HX3.out HBB.out.symm).mono ?_
    rintro r w5 ⟨rfl, hx5⟩
    have HX5 := Lib.hid (HX3.out.trans hx5)
    clear hx5
    go_wp2_with fail
    go_ret
    exact givesE_of (by rw [HF.out]) HX5.out
end Go.Proofs.YtfjlglefodndjaaGreatDoor

namespace Go.Proofs.YtfjlglefodndjaaGreatDoor
open Go.RowKit Go.Maps

/-! check.Expr. -/
--BEGIN DEF X4
def cexpr4R (l : List Cla) (e : Ex) (aw : Option Addr) (nw cw : Nat) (aa : Option Addr) (na ca : Nat) (a : Option Addr) (n c : Nat) (sa : Option Addr) (sn sc : Nat) (N : Int) : Nat → Value → World → Prop
  | 0, u, _ => u = .agg #[.slice sa sn sc]
  | 1, u, _ => u = .slice a n c
  | 2, u, W => ∃ bd, u = .map (some bd) ∧ DefsAt W l bd n
  | 3, u, _ => u = .agg #[.int .i64 e.op, .string e.name, .slice aw nw cw, .int .i64 e.lo, .int .i64 e.hi, .slice aa na ca]
  | 4, u, _ => u = .int .i64 N
  | _, u, _ => u = .int .i64 N
--END DEF X4
set_option maxRecDepth 100000 in
set_option maxHeartbeats 8000000 in
theorem checkExpr_calls (s : List Attr) (l : List Cla) (a : Option Addr) (n c : Nat) (e : Ex) (ev sv : Value) (w : World) (hf : ∀ x ∈ s, x.fits) (hsl : s.length ≤ 1000000000000000) (hl : IsClas w l a n c) (hn : n ≤ 1000000) (hsz : ∀ x ∈ l, x.name.size ≤ 1000000000000000) (hfew : e.few) (hfit : e.fits) (ho : HasOps w) (hs : IsSchema w s sv) (he : IsEx w e ev) :
    Calls Tryz.prog 11 #[sv, .slice a n c, ev] w (GivesE (.int .i64 (exprErr s l e)) w) := by
  obtain ⟨sa, sn, sc, rfl, hsn⟩ := hs.slice
  have HV := Lib.hid (fun (W : World) (hW : Ext w W) => sValidate_calls s (.agg #[.slice sa sn sc]) W (hs.ext hW) hf hsl)
  have HD := Lib.hid (fun (W : World) (hW : Ext w W) => definitions_calls l a n c W (hl.ext hW) hn hsz)
  have HX := Lib.hid (fun (hz : schemaErr s = 0) (bm : Nat) (W : World) (hW : Ext w W) (hd : DefsAt W l bm n) => cexpression_calls s hz l hf hsl bm n e ev (.agg #[.slice sa sn sc]) W hfew hfit (ho.ext hW) (hs.ext hW) hd (he.ext hW))
  obtain ⟨aw, nw, cw, aa, na, ca, rfl, -⟩ := he.parts
  obtain ⟨R, hR⟩ : ∃ R, R = exprErr s l e := ⟨_, rfl⟩
  rw [← hR]
  have HR := Lib.hid (show R = if schemaErr s ≠ 0 then schemaErr s else exprnErr s l e from hR)
  obtain ⟨E, hE⟩ : ∃ E, E = schemaErr s := ⟨_, rfl⟩
  rw [← hE] at HV HR HX
  obtain ⟨N, hN⟩ : ∃ N, N = exprnErr s l e := ⟨_, rfl⟩
  rw [← hN] at HR HX
  clear hf hl hn hsz hfew hfit ho hs he hR hsn hE hN
  unfold exV at *
  obtain ⟨wa, hwa⟩ : ∃ wa, wa = (w.alloc (.cells #[.slice sa sn sc] 24)).alloc (.cells #[.int .i64 e.op, .string e.name, .slice aw nw cw, .int .i64 e.lo, .int .i64 e.hi, .slice aa na ca] 29) := ⟨_, rfl⟩
  have hxa : Ext w wa := by rw [hwa]; exact ((Ext.refl _).alloc _).alloc _
  have hb0 : wa.heap[w.heap.size]? = some (.cells #[.slice sa sn sc] 24 (0, 0)) := by rw [hwa]; exact blk_alloc (alloc_new w _)
  have hb1 : wa.heap[w.heap.size + 1]? = some (.cells #[.int .i64 e.op, .string e.name, .slice aw nw cw, .int .i64 e.lo, .int .i64 e.hi, .slice aa na ca] 29 (0, 0)) := by rw [hwa]; exact alloc_atR (by simp)
  have HXA := Lib.hid hxa
  have HB0 := Lib.hid hb0
  have HB1 := Lib.hid hb1
  obtain ⟨a0, af⟩ := blk1 hb0
  have hlt1 := blk_lt hb1
  have HV1 := Lib.hid (HV.out wa hxa)
  clear hxa hb0 hb1 HV
  go_enter Tryz.func11, Tryz.ntmps11
  go_upto_region 1 with fail
  rw [← hwa]
  clear hwa
  go_wp2_with fail
  refine HV1.out.mono ?_
  rintro r w3 ⟨rfl, hx3⟩
  have HX3 := Lib.hid (HXA.out.trans hx3)
  have hb03 := hx3.blk HB0.out
  have hb13 := hx3.blk HB1.out
  clear hx3 a0 af hlt1 HV1
  by_cases hz : E = 0
  case neg =>
    have tz : (E != 0) = true := by simp [hz]
    have HQ := Lib.hid (show R = E by rw [HR.out, if_pos hz])
    clear hz
    go_wp2_with fail
    go_ret
    exact givesE_of (by rw [HQ.out]) HX3.out
  have tz : (E != 0) = false := by simp [hz]
  have HQ := Lib.hid (show R = N by rw [HR.out, if_neg (by simpa using hz)])
  have HXX := Lib.hid (HX.out hz)
  clear hz HR HX
  obtain ⟨d0, df⟩ := blk1 hb03
  obtain ⟨f0, f1, f2, f3, f4, f5, ff⟩ := blk6 hb13
  clear hb03 hb13
  go_upto_region 4 with fail
  --BEGIN X4
  refine wp_region_grow (m := 6) [5] (GrG w3) GrE (GrP (cexpr4R l e aw nw cw aa na ca a n c sa sn sc N)) (by kernel_rfl) (by kernel_rfl) ((Ext.refl w3).drew) ?_ ?_ ?_
  · intro i k v W W' hi hk hne hout h hE
    have hE : Ext W W' := hE
    have hi' : i = 0 ∨ i = 1 ∨ i = 2 ∨ i = 3 ∨ i = 4 ∨ i = 5 := by omega
    clear hi hk hne hout
    rcases hi' with rfl | rfl | rfl | rfl | rfl | rfl
    · exact h
    · exact h
    · obtain ⟨bd, e0, h⟩ := h
      exact ⟨bd, e0, h.ext hE⟩
    · exact h
    · exact h
    · exact h
  · intro q op hq ho vs W hW hd ρ hρ
    have hq' : q = 0 ∨ q = 1 ∨ q = 2 ∨ q = 3 ∨ q = 4 ∨ q = 5 := by omega
    clear hq
    have o3 : ρ (.tmp 3) = .pointer (some ⟨w.heap.size, 0, none⟩) := hρ.out 3 rfl
    have o1 : ρ (.tmp 1) = .slice a n c := hρ.out 1 rfl
    have i1 := hρ.ins 1 14 (by omega) rfl (Nat.le_of_ble_eq_true rfl)
    have o5 : ρ (.tmp 5) = .pointer (some ⟨w.heap.size + 1, 0, none⟩) := hρ.out 5 rfl
    have i0 := hρ.ins 0 13 (by omega) rfl (Nat.le_of_ble_eq_true rfl)
    have i2 := hρ.ins 2 15 (by omega) rfl (Nat.le_of_ble_eq_true rfl)
    have i3 := hρ.ins 3 16 (by omega) rfl (Nat.le_of_ble_eq_true rfl)
    have i4 := hρ.ins 4 17 (by omega) rfl (Nat.le_of_ble_eq_true rfl)
    have hc := hρ.const
    have hfn := hρ.func
    clear hρ
    have HW := Lib.hid (show Ext w3 W from hW)
    rcases hq' with rfl | rfl | rfl | rfl | rfl | rfl
    · cases ho
      clear hd
      have g0 := HW.out.cell d0
      unfold GivesOp
      go_simp
      exact ⟨Ext.refl W, rfl⟩
    · cases ho
      clear hd
      unfold GivesOp
      go_simp
      exact ⟨Ext.refl W, rfl⟩
    · cases ho
      have h1 : vs 1 = .slice a n c := hd ⟨1, .data⟩ (by simp) rfl
      rw [h1] at i1
      clear hd
      unfold GivesOp
      go_simp
      refine (HD.out W (HX3.out.trans HW.out)).mono ?_
      rintro r w5 ⟨bd, rfl, hd5, hx5⟩
      exact ⟨_, rfl, hx5, HW.out.trans hx5, _, rfl, hd5⟩
    · cases ho
      clear hd
      have g0 := HW.out.cell f0
      have g1 := HW.out.cell f1
      have g2 := HW.out.cell f2
      have g3 := HW.out.cell f3
      have g4 := HW.out.cell f4
      have g5 := HW.out.cell f5
      unfold GivesOp
      go_simp
      exact ⟨Ext.refl W, rfl⟩
    · cases ho
      have h0 : vs 0 = .agg #[.slice sa sn sc] := hd ⟨0, .data⟩ (by simp) rfl
      rw [h0] at i0
      obtain ⟨bd, h2, hs2⟩ : ∃ bd, vs 2 = .map (some bd) ∧ DefsAt W l bd n := hd ⟨2, .data⟩ (by simp) rfl
      have HS2 := Lib.hid hs2
      clear hs2
      rw [h2] at i2
      have h3 : vs 3 = .agg #[.int .i64 e.op, .string e.name, .slice aw nw cw, .int .i64 e.lo, .int .i64 e.hi, .slice aa na ca] := hd ⟨3, .data⟩ (by simp) rfl
      rw [h3] at i3
      clear hd
      unfold GivesOp
      go_simp
      refine (HXX.out _ W (HX3.out.trans HW.out) HS2.out).mono ?_
      rintro r w5 ⟨rfl, hx5⟩
      exact ⟨_, rfl, hx5, HW.out.trans hx5, rfl⟩
    · cases ho
      have h4 : vs 4 = .int .i64 N := hd ⟨4, .data⟩ (by simp) rfl
      rw [h4] at i4
      clear hd
      unfold GivesOp
      go_simp
      exact ⟨Ext.refl W, rfl⟩
  intro vs W hW hR
  rw [if_pos (by decide +kernel)]
  have h5 : vs 5 = .int .i64 N := hR 5 (by simp) (by omega)
  simp only [acts, dstAt, List.range, List.range.loop, List.foldl_cons, List.foldl_nil, h5]
  go_simp
  have hW2 : Ext w3 W := hW
  clear hR hW h5
  --END X4
  have HXW := Lib.hid (HX3.out.trans hW2)
  clear hW2
  go_wp2_with fail
  go_ret
  exact givesE_of (by rw [HQ.out]) HXW.out
end Go.Proofs.YtfjlglefodndjaaGreatDoor

namespace Go.Proofs.YtfjlglefodndjaaGreatDoor
open Go.RowKit

/-! The reference's ExprError. -/
set_option maxRecDepth 100000 in
set_option maxHeartbeats 8000000 in
theorem rExprErr_calls (s : List Attr) (l : List Cla) (a : Option Addr) (n c : Nat) (e : Ex) (ev sv : Value) (w : World) (hf : ∀ x ∈ s, x.fits) (hsl : s.length ≤ 1000000000000000) (hl : IsClas w l a n c) (hn : n ≤ 1000000000000000) (hfew : e.few) (hfit : e.fits) (hslim : e.slim) (hs : IsSchema w s sv) (he : IsEx w e ev) :
    Calls Tryz.prog 12 #[sv, .slice a n c, ev] w (GivesE (.int .i64 (exprErr s l e)) w) := by
  obtain ⟨sa, sn, sc, rfl, hsn⟩ := hs.slice
  have HV := Lib.hid (fun (W : World) (hW : Ext w W) => rSchema_calls s (.agg #[.slice sa sn sc]) W (hs.ext hW) hf hsl)
  have HD := Lib.hid (fun (W : World) (hW : Ext w W) => rexpr_slim e ev W (he.ext hW) hslim hfit hfew)
  have HX := Lib.hid (fun (W : World) (hW : Ext w W) (hz : refExprB e = true) => rnodesErr_calls s l hf hsl a n c hn e.size e ev (.agg #[.slice sa sn sc]) W (Nat.le_refl _) (by
    rw [refExprB, Bool.and_eq_true, Bool.and_eq_true] at hz
    have h2 := hz.1.2
    simp only [decide_eq_true_eq] at h2
    unfold refSize at h2; omega) hfew (hs.ext hW) (hl.ext hW) (he.ext hW))
  obtain ⟨aw, nw, cw, aa, na, ca, rfl, -⟩ := he.parts
  obtain ⟨R, hR⟩ : ∃ R, R = exprErr s l e := ⟨_, rfl⟩
  rw [← hR]
  have HR := Lib.hid (show R = if schemaErr s ≠ 0 then schemaErr s else if refExprB e = false then 5 else nodesErr s l e from hR)
  obtain ⟨E, hE⟩ : ∃ E, E = schemaErr s := ⟨_, rfl⟩
  rw [← hE] at HV HR
  obtain ⟨N, hN⟩ : ∃ N, N = nodesErr s l e := ⟨_, rfl⟩
  rw [← hN] at HR HX
  obtain ⟨B, hB⟩ : ∃ B, B = refExprB e := ⟨_, rfl⟩
  rw [← hB] at HR HX HD
  clear hf hl hfew hfit hslim hs he hR hsn hE hN hB
  unfold exV at *
  obtain ⟨wa, hwa⟩ : ∃ wa, wa = (w.alloc (.cells #[.slice sa sn sc] 24)).alloc (.cells #[.int .i64 e.op, .string e.name, .slice aw nw cw, .int .i64 e.lo, .int .i64 e.hi, .slice aa na ca] 29) := ⟨_, rfl⟩
  have hxa : Ext w wa := by rw [hwa]; exact ((Ext.refl _).alloc _).alloc _
  have hb0 : wa.heap[w.heap.size]? = some (.cells #[.slice sa sn sc] 24 (0, 0)) := by rw [hwa]; exact blk_alloc (alloc_new w _)
  have hb1 : wa.heap[w.heap.size + 1]? = some (.cells #[.int .i64 e.op, .string e.name, .slice aw nw cw, .int .i64 e.lo, .int .i64 e.hi, .slice aa na ca] 29 (0, 0)) := by rw [hwa]; exact alloc_atR (by simp)
  have HXA := Lib.hid hxa
  have HB0 := Lib.hid hb0
  have HB1 := Lib.hid hb1
  obtain ⟨a0, af⟩ := blk1 hb0
  have hlt1 := blk_lt hb1
  have HV1 := Lib.hid (HV.out wa hxa)
  clear hxa hb0 hb1 HV
  go_enter Tryz.func12, Tryz.ntmps12
  go_upto_region 1 with fail
  rw [← hwa]
  clear hwa
  go_wp2_with fail
  refine HV1.out.mono ?_
  rintro r w3 ⟨rfl, hx3⟩
  have HX3 := Lib.hid (HXA.out.trans hx3)
  have HB03 := Lib.hid (hx3.blk HB0.out)
  have HB13 := Lib.hid (hx3.blk HB1.out)
  clear hx3 a0 af hlt1 HV1
  by_cases hz : E = 0
  case neg =>
    have tz : (E != 0) = true := by simp [hz]
    have HQ := Lib.hid (show R = E by rw [HR.out, if_pos hz])
    clear hz
    go_wp2_with fail
    go_ret
    exact givesE_of (by rw [HQ.out]) HX3.out
  have tz : (E != 0) = false := by simp [hz]
  have HQ := Lib.hid (show R = if B = false then 5 else N by rw [HR.out, if_neg (by simpa using hz)])
  clear hz HR
  obtain ⟨f0, f1, f2, f3, f4, f5, ff⟩ := blk6 HB13.out
  have hlt1 := blk_lt HB13.out
  go_wp2_with fail
  refine (HD.out w3 HX3.out).mono ?_
  rintro r w5 ⟨rfl, hx5⟩
  have HX5 := Lib.hid (HX3.out.trans hx5)
  have HB05 := Lib.hid (hx5.blk HB03.out)
  have HB15 := Lib.hid (hx5.blk HB13.out)
  clear hx5 f0 f1 f2 f3 f4 f5 ff hlt1 HD
  cases B
  · go_wp2_with fail
    go_ret
    exact givesE_of (by rw [HQ.out]; rfl) HX5.out
  · obtain ⟨a0, af⟩ := blk1 HB05.out
    obtain ⟨f0, f1, f2, f3, f4, f5, ff⟩ := blk6 HB15.out
    have hlt1 := blk_lt HB15.out
    go_wp2_with fail
    refine (HX.out w5 HX5.out (by trivial)).mono ?_
    rintro r w6 ⟨rfl, hx6⟩
    have HX6 := Lib.hid (HX5.out.trans hx6)
    clear hx6
    go_wp2_with fail
    go_ret
    exact givesE_of (by rw [HQ.out]; rfl) HX6.out
end Go.Proofs.YtfjlglefodndjaaGreatDoor

namespace Go.Proofs.YtfjlglefodndjaaGreatDoor
open Go.RowKit

/-! Append of all of a slice; a row's element set anew. -/
/-- append of a slice of length 0. -/
theorem run_append_zero {P : Program} (W : World) (t ty e : TypeId) (i : TypeInfo) (ht : P.underlying t = some (.slice e)) (hi : P.info? e = some i) (b : Option Addr) (n cap : Nat) (hnc : n ≤ cap) (ax : Option Addr) (c : Nat) :
    (Builtin.append_ #[t, t] ty #[.slice b n cap, .slice ax 0 c]).run P W = .ok (.slice b n cap) W := by
  cases b <;> cases ax <;> simp [Builtin.append_, run_underlying ht, sizeOf, typeInfo, hi, Builtin.lenOf, Builtin.firstCells, hnc, storeCells, loadCells, loadCellsFrom]
/-- append of all elements of a slice that lies in memory, of none too. -/
theorem wpList_append_all {t e : TypeId} {z : Value} {size bytes : Nat} (E : ElemT t e z size bytes) {ops : Array Oper} {rest : List Oper} {o : Oper} {a : Act} {Q : Exit → Act → World → Prop} {W : World}
    (hgd : o.guard = none) (s x : Operand) (ho : o.op = .call { callee := .builtin .append, args := #[s, x], argTypes := #[t, t] }) (base : Nat) (v : Value) (n : Nat) (xs : List Value) (hs : a.eval s = v) (hown : W.ownsRow base e size v n xs)
    (ax : Option Addr) (m c : Nat) (news : List Value) (hx : a.eval x = .slice ax m c) (hl : news.length = m * size) (hnews : 0 < m → ∃ b off, ax = some ⟨b, off, none⟩ ∧ ∀ j (h : j < news.length), W.cell? ⟨b, off + j, none⟩ = some news[j]) (h1 : ∀ u ∈ news, u.oneCell' = true)
    (hn : n + m ≤ 100000000) (hb : bytes ≤ 1000) (hbase : base ≤ W.heap.size)
    (h : ∀ v' w', w'.ownsRow base e size v' (n + m) (xs ++ news) → W.grownBy w' v.ownBlock → (∀ k, v'.ownBlock = some k → v.ownBlock = some k ∨ k = W.heap.size) → wpList Tryz.prog ops Q rest (a.put o.dst v') w') : wpList Tryz.prog ops Q (o :: rest) a W := by
  obtain ⟨i, hi, hz, hsz, hby⟩ := info_parts E.info
  by_cases hm : m = 0
  · subst hm
    have hnil : news = [] := List.eq_nil_of_length_eq_zero (by simpa using hl)
    subst hnil
    obtain ⟨b, cap, rfl, hnc⟩ : ∃ b cap, v = .slice b n cap ∧ n ≤ cap := by
      rcases hown.2 with ⟨rfl, rfl⟩ | ⟨g, cap, cur, rfl, _, _, hnc, _⟩
      · exact ⟨none, 0, rfl, by omega⟩
      · exact ⟨_, cap, rfl, hnc⟩
    refine wpList_plain hgd fun K hK => ?_
    have hrun := run_append_zero (P := Tryz.prog) W t o.type e i E.ht hi b n cap hnc ax c
    unfold Oper.wp
    simp [execOp, ho, resolve, invoke, builtin, hs, hx, hrun, Result.andThen]
    refine hK _ _ (h _ _ (by simpa using hown) ⟨rfl, rfl, rfl, Nat.le_refl _, fun _ _ _ => rfl⟩ (fun k hk => Or.inl hk))
  · obtain ⟨b, off, rfl, hcell⟩ := hnews (by omega)
    refine wpList_append_lies W hgd s x t ho base e i z size bytes E.ht hi hz hsz hby E.hzs E.hsz v n xs hs hown ⟨b, off, none⟩ m c news hx hl ?_ h1 (by omega) (by simp only [maxLen]; omega) (by
      calc (n + m) * bytes ≤ 100000000 * 1000 := Nat.mul_le_mul hn hb
        _ ≤ 140737488355328 := by omega) hbase _ rfl ?_
    · intro j u hu
      obtain ⟨hj, rfl⟩ := List.getElem?_eq_some_iff.1 hu
      have : (⟨b, off, none⟩ : Addr).add j = ⟨b, off + j, none⟩ := by unfold Addr.add; split <;> simp_all
      rw [this]
      exact hcell j hj
    · intro g cap w' h2 h3 h4 _
      refine h _ w' h2 h3 fun k hk => ?_
      simp only [Value.ownBlock] at hk
      injection hk with hk
      subst hk
      exact h4
theorem sub_new {w W : World} {bd : Nat} {M N : List Nat} (h : Chg [bd] w W) (hn : ∀ y ∈ N, w.heap.size ≤ y) : Sub (mask w (bd :: M)) (mask W (bd :: (N ++ M))) := mask_sub_mask fun k hk hm => by
  simp only [List.mem_cons, not_or, List.mem_append] at hm ⊢
  exact ⟨⟨hm.1, fun h' => by have := hn k h'; omega, hm.2⟩, h.block k hk (by simpa using hm.1)⟩
theorem sub_old {w W : World} {bd : Nat} {M : List Nat} (h : Chg [bd] w W) : Sub (mask w (bd :: M)) (mask W (bd :: M)) := by
  have := sub_new (M := M) (N := []) h (by simp)
  simpa using this
/-- The cells of arguments. -/
theorem exs_list {w : World} {l : List Ex} {aa : Option Addr} (h : ExsD w l aa) : ∃ xs : List ExV, ExsR w l xs ∧ (0 < l.length → ∃ b off, aa = some ⟨b, off, none⟩ ∧ ∀ j (hj : j < (xs.flatMap ExV.cells).length), w.cell? ⟨b, off + j, none⟩ = some (xs.flatMap ExV.cells)[j]) := by
  have each : ∀ i, i < l.length → ∃ x : ExV, ∀ (hi : i < l.length), IsEx w l[i] x.val ∧ ∃ b off, aa = some ⟨b, off, none⟩ ∧ ∀ j (hj : j < 6), w.cell? ⟨b, off + i * 6 + j, none⟩ = some (x.cells[j]'(by rw [exV_len]; exact hj)) := by
    intro i hi
    obtain ⟨b, off, rfl, aw, nw, cw, aa', na, ca, h0, h1, h2, h3, h4, h5, h6⟩ := ExsD.at l _ h i hi
    refine ⟨⟨l[i].op, l[i].name, aw, nw, cw, l[i].lo, l[i].hi, aa', na, ca⟩, fun _ => ⟨h6, b, off, rfl, fun j hj => ?_⟩⟩
    have hj' : j = 0 ∨ j = 1 ∨ j = 2 ∨ j = 3 ∨ j = 4 ∨ j = 5 := by omega
    rcases hj' with rfl | rfl | rfl | rfl | rfl | rfl
    · exact h0
    · exact h1
    · exact h2
    · exact h3
    · exact h4
    · exact h5
  have lo : ∀ (n : Nat), n ≤ l.length → ∃ xs : List ExV, xs.length = n ∧ ∀ i (hi : i < xs.length) (hl : i < l.length), IsEx w l[i] xs[i].val ∧ ∃ b off, aa = some ⟨b, off, none⟩ ∧ ∀ j (hj : j < 6), w.cell? ⟨b, off + i * 6 + j, none⟩ = some (xs[i].cells[j]'(by rw [exV_len]; exact hj)) := by
    intro n
    induction n with
    | zero => intro _; exact ⟨[], rfl, fun i hi => by simp at hi⟩
    | succ n ih =>
      intro hn
      obtain ⟨xs, e1, e2⟩ := ih (by omega)
      obtain ⟨x, hx⟩ := each n (by omega)
      refine ⟨xs ++ [x], by simp [e1], fun i hi hl => ?_⟩
      by_cases hin : i < xs.length
      · simp only [List.getElem_append_left hin]; exact e2 i hin hl
      · have : i = n := by simp at hi; omega
        subst this
        simp only [List.getElem_append_right (Nat.le_of_not_lt hin), e1, Nat.sub_self, List.getElem_cons_zero]
        exact hx hl
  obtain ⟨xs, e1, e2⟩ := lo l.length (Nat.le_refl _)
  refine ⟨xs, ⟨e1.symm, fun i h1 h2 => (e2 i h2 h1).1⟩, fun hp => ?_⟩
  obtain ⟨_, b, off, rfl, _⟩ := e2 0 (by omega) hp
  refine ⟨b, off, rfl, fun j hj => ?_⟩
  have hlen := length_flatMap_of ExV.cells 6 (fun _ => rfl) xs
  have hi : j / 6 < xs.length := by omega
  obtain ⟨_, b', off', e3, hc⟩ := e2 (j / 6) hi (by omega)
  simp only [Option.some.injEq, Addr.mk.injEq, and_true] at e3
  obtain ⟨rfl, rfl⟩ := e3
  have h6 := hc (j % 6) (by omega)
  have e4 : off + j / 6 * 6 + j % 6 = off + j := by omega
  rw [e4] at h6
  rw [h6]
  have := flatMap_at ExV.cells 6 (fun _ => rfl) xs (j / 6) hi (j % 6) (by rw [exV_len]; omega)
  rw [show j / 6 * 6 + j % 6 = j by omega, List.getElem?_eq_getElem hj] at this
  exact this.symm
theorem strs_list {w : World} {l : List ByteArray} {a : Option Addr} {n c : Nat} (h : IsStrs w l a n c) : 0 < n → ∃ b off, a = some ⟨b, off, none⟩ ∧ ∀ j (hj : j < (l.map Value.string).length), w.cell? ⟨b, off + j, none⟩ = some (l.map Value.string)[j] := by
  intro hn
  obtain ⟨b, off, rfl, _⟩ := h.2.2.2 0 (by have := h.1; omega)
  refine ⟨b, off, rfl, fun j hj => ?_⟩
  obtain ⟨b', off', e, hc⟩ := h.2.2.2 j (by simpa using hj)
  simp only [Option.some.injEq, Addr.mk.injEq, and_true] at e
  obtain ⟨rfl, rfl⟩ := e
  rw [hc]; simp
theorem mask_in_sub {w W : World} {bd : Nat} {M : List Nat} (h : Chg [bd] w W) : Sub (mask w (bd :: M)) W := (sub_old h).trans (mask_sub _ _)
theorem cell_allocs (w : World) (l : List Value) (t : TypeId) : ∀ j (hj : j < l.length), (w.alloc (.cells l.toArray t)).cell? ⟨w.heap.size, 0 + j, none⟩ = some l[j] := by
  intro j hj
  rw [World.cell?_alloc_at _ _ _ _ rfl]
  simp [hj]
theorem cells_one (xs : List ExV) : ∀ u ∈ xs.flatMap ExV.cells, u.oneCell' = true := by
  intro u hu
  obtain ⟨x, _, hx⟩ := List.mem_flatMap.1 hu
  simp only [ExV.cells, List.mem_cons, List.not_mem_nil, or_false] at hx
  rcases hx with rfl | rfl | rfl | rfl | rfl | rfl <;> rfl
theorem cell_alloc0 (w : World) (v : Value) (t : TypeId) : ∀ j (hj : j < [v].length), (w.alloc (.cells #[v] t)).cell? ⟨w.heap.size, 0 + j, none⟩ = some [v][j] := by
  intro j hj
  obtain rfl : j = 0 := by simpa using hj
  rw [World.cell?_alloc_at _ _ _ _ rfl]
  rfl
theorem Chg.cell' {N : List Nat} {w w' : World} (h : Chg N w w') {p : Addr} (hn : p.block ∉ N) (hlt : p.block < w.heap.size) : w'.cell? p = w.cell? p := World.cell?_of_block (h.block _ hlt hn)
def put6at (w : World) (B o : Nat) (x : ExV) : World := (((((w.setCell ⟨B, o, none⟩ (.int .i64 x.op)).setCell ⟨B, o + 1, none⟩ (.string x.name)).setCell ⟨B, o + 2, none⟩ (.slice x.aw x.nw x.cw)).setCell ⟨B, o + 3, none⟩ (.int .i64 x.lo)).setCell ⟨B, o + 4, none⟩ (.int .i64 x.hi)).setCell ⟨B, o + 5, none⟩ (.slice x.aa x.na x.ca)
theorem put6at_chg (w : World) (B o : Nat) (x : ExV) {N : List Nat} (h : B ∈ N) : Chg N w (put6at w B o x) := by
  unfold put6at
  repeat (with_reducible (refine Chg.setCell ?_ ?_ _))
  exact Chg.refl _ _
  all_goals exact Or.inl h
theorem put6at_cell {w : World} {B o : Nat} {x : ExV} {c : Array Value} {t : TypeId} (h : w.heap[B]? = some (.cells c t (0, 0))) (hs : o + 6 ≤ c.size) (j : Nat) : (put6at w B o x).cell? ⟨B, j, none⟩ = if o ≤ j ∧ j < o + 6 then x.cells[j - o]? else c[j]? := by
  have hb : (put6at w B o x).heap[B]? = some (.cells ((((((c.setIfInBounds o (.int .i64 x.op)).setIfInBounds (o + 1) (.string x.name)).setIfInBounds (o + 2) (.slice x.aw x.nw x.cw)).setIfInBounds (o + 3) (.int .i64 x.lo)).setIfInBounds (o + 4) (.int .i64 x.hi)).setIfInBounds (o + 5) (.slice x.aa x.na x.ca)) t (0, 0)) := by
    unfold put6at
    rw [heap_setCell_same _ _ _ _ _ _ (heap_setCell_same _ _ _ _ _ _ (heap_setCell_same _ _ _ _ _ _ (heap_setCell_same _ _ _ _ _ _ (heap_setCell_same _ _ _ _ _ _ (heap_setCell_same _ _ _ _ _ _ h)))))]
  rw [blk_cell hb]
  simp only [Array.getElem?_setIfInBounds, Array.size_setIfInBounds]
  by_cases hj : o ≤ j ∧ j < o + 6
  · rw [if_pos hj]
    obtain ⟨i, rfl⟩ : ∃ i, j = o + i := ⟨j - o, by omega⟩
    rw [Nat.add_sub_cancel_left]
    have hi : i = 0 ∨ i = 1 ∨ i = 2 ∨ i = 3 ∨ i = 4 ∨ i = 5 := by omega
    rcases hi with rfl | rfl | rfl | rfl | rfl | rfl
    all_goals simp [ExV.cells]
    all_goals omega
  · rw [if_neg hj, if_neg (by omega), if_neg (by omega), if_neg (by omega), if_neg (by omega), if_neg (by omega), if_neg (by omega)]
theorem sizes_set : (l : List Ex) → (k : Nat) → (hk : k < l.length) → (y : Ex) → sizes (l.set k y) + l[k].size = sizes l + y.size
  | [], k, hk, _ => by simp at hk
  | a :: r, 0, _, y => by simp [sizes]; omega
  | a :: r, k + 1, hk, y => by
    have := sizes_set r k (by simpa using hk) y
    simp [sizes] at this ⊢; omega
theorem fitsAll_memT {l : List Ex} (h : fitsAll l) : ∀ y ∈ l, y.fits := fun y hy => by
  obtain ⟨i, hi, rfl⟩ := List.getElem_of_mem hy
  exact fitsAll_at l h i hi
theorem fewAll_memT {l : List Ex} (h : fewAll l) : ∀ y ∈ l, y.few := fun y hy => by
  obtain ⟨i, hi, rfl⟩ := List.getElem_of_mem hy
  exact fewAll_at l h i hi
end Go.Proofs.YtfjlglefodndjaaGreatDoor
