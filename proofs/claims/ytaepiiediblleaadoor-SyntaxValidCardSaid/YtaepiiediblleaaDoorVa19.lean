/-
  Texts of the claim, joined: Awake, Binds2.
-/
import Derived.Test.YtaepiiediblleaaDoorVa12
import Derived.Test.YtaepiiediblleaaDoorVa02
import Derived.Test.YtaepiiediblleaaDoorVa18
import Derived.Test.YtaepiiediblleaaDoorVa16
import Derived.Test.YtaepiiediblleaaDoorVa10
namespace Go.Proofs.YtaepiiediblleaaDoor
open Go.RowKit

def nm (c : UInt8) : Ex := .mk 3 ⟨#[c]⟩ [] 0 0 []
def awakeText : ByteArray := ⟨#[97, 32, 111, 114, 32, 98, 32, 97, 110, 100, 32, 110, 111, 116, 32, 99]⟩
def awakeToks : List Tok := [⟨1, ⟨#[97]⟩, 0, 0⟩, ⟨1, ⟨#[111, 114]⟩, 0, 2⟩, ⟨1, ⟨#[98]⟩, 0, 5⟩, ⟨1, ⟨#[97, 110, 100]⟩, 0, 7⟩, ⟨1, ⟨#[110, 111, 116]⟩, 0, 11⟩, ⟨1, ⟨#[99]⟩, 0, 15⟩]
def awakeEx : Ex := .mk 8 ⟨#[]⟩ [] 0 0 [nm 97, .mk 7 ⟨#[]⟩ [] 0 0 [nm 98, .mk 6 ⟨#[]⟩ [] 0 0 [nm 99]]]
theorem awake_scan : scanAll awakeText = (awakeToks, 0, 0) := by kernel_rfl
theorem awake_tokens : tokensF awakeToks 0 = (awakeEx, (awakeToks.length : Int), 0, 0) := by kernel_rfl
theorem awake_64 : ∀ i, i < awakeText.size → byteAt awakeText i ≠ 64 := by
  have h : (List.range 16).all (fun i => byteAt awakeText i != 64) = true := by decide +kernel
  intro i hi
  have := List.all_eq_true.1 h i (by rw [List.mem_range]; exact hi)
  simpa using this
theorem awake_parse (w : World) (ho : HasOps w) (M : List Nat) (hM : ∀ y ∈ M, y < w.heap.size) : Calls Tryd.prog 10 #[.string awakeText] w (ParseQ awakeEx 0 M w) :=
  Parse_ok awakeText awakeToks awakeEx w ho (by decide) awake_64 awake_scan (by decide) (fun t ht => by
    have h : awakeToks.all (fun t => decide (t.text.size ≤ 1000000000000000)) = true := by decide +kernel
    simpa using List.all_eq_true.1 h t ht) awake_tokens M hM

set_option maxRecDepth 100000 in
set_option maxHeartbeats 1000000 in
theorem awake_calls (w : World) (ho : HasOps w) : Calls Tryd.prog 12 #[] w (GivesE (.bool true) w) := by
  have HP := Lib.hid (awake_parse w ho [] (by simp))
  unfold awakeText at HP
  clear ho
  go_enter Tryd.func12, Tryd.ntmps12
  go_wp2_with fail
  refine HP.out.mono ?_
  rintro r w1 ⟨x, off, rfl, hx, h0, hE⟩
  obtain rfl := h0 rfl
  have hx' := hx.mono (mask_sub _ _)
  have HX := Lib.hid hx'
  obtain ⟨aw, nw, cw, aa, na, ca, e1, g1, g2, g3, g4, g5⟩ := hx'.parts
  rw [e1] at HX ⊢
  have hna : na = 2 := g2
  subst hna
  obtain ⟨b, o, ea, aw0, nw0, cw0, aa0, na0, ca0, p0, p1, p2, p3, p4, p5, p6⟩ := ExsD.at _ _ g5 0 (by decide)
  subst ea
  obtain ⟨b', o', ea, aw1, nw1, cw1, aa1, na1, ca1, q0, q1, q2, q3, q4, q5, q6⟩ := ExsD.at _ _ g5 1 (by decide)
  obtain ⟨rfl, rfl⟩ : b' = b ∧ o' = o := by simpa using ea.symm
  have hb := block_lt p1
  simp only [Nat.zero_mul, Nat.one_mul, Nat.add_zero] at p0 p1 p2 p3 p4 p5 q0 q1 q2 q3 q4 q5
  have p1' : w1.cell? ⟨b', o' + 1, none⟩ = some (.string ⟨#[97]⟩) := p1
  have q0' : w1.cell? ⟨b', o' + 6, none⟩ = some (.int .i64 7) := q0
  have HE := Lib.hid hE
  simp only at hb
  have hb2 : b' ≠ w1.heap.size := by omega
  clear hx hx' e1 g1 g2 g3 g4 g5 p0 p1 p2 p3 p4 p5 p6 q0 q1 q2 q3 q4 q5 q6 ea hE h0
  unfold exV awakeEx at *
  simp only [Ex.op, Ex.name, Ex.lo, Ex.hi] at *
  have HSZ := Lib.hid (size_calls 6 awakeEx _ _ (by decide +kernel) (by omega) (HX.out.ext ((Ext.refl w1).alloc (.cells #[.int .i64 8, .string ⟨#[]⟩, .slice aw nw cw, .int .i64 0, .int .i64 0, .slice (some ⟨b', o', none⟩) 2 ca] 26))))
  go_wp2_with fail
  refine HSZ.out.mono ?_
  rintro r w2 ⟨rfl, hx2⟩
  have hE2 := Lib.hid (HE.out.trans (((Ext.refl w1).alloc _).trans hx2))
  clear hx2
  rw [show awakeEx.size = 6 by decide +kernel]
  go_wp2_with fail
  go_ret
  exact ⟨rfl, hE2.out⟩
end Go.Proofs.YtaepiiediblleaaDoor

namespace Go.Proofs.YtaepiiediblleaaDoor
open Go.RowKit

theorem IntsAt.ext {w w' : World} {a : Option Addr} {n : Nat} (h : IntsAt w a n) (hx : Ext w w') : IntsAt w' a n := fun i hi => by
  obtain ⟨b, off, z, e, hc⟩ := h i hi
  exact ⟨b, off, z, e, hx.cell hc⟩
/-- An expression was made. -/
theorem lexpr_fine (la : Option Addr) (ln lc : Nat) (w : World) (hi : IntsAt w la ln) (hl : ln ≤ 1000000000000000) :
    Calls Tryd.prog 8 #[.slice la ln lc] w (fun e w' => ∃ (x : Ex) (v : ExV), e = .returned v.val ∧ Fine 4 x ∧ IsEx w' x v.val ∧ Ext w w') := by
  refine (lexpr_calls la ln lc w hi hl [] (by simp)).mono ?_
  rintro e w' ⟨x, v, attrs, rfl, hat, hm, hix, hx⟩
  exact ⟨x, v, rfl, made_fine hat 4 x hm, hix.mono (mask_sub _ _), hx⟩
/-- The text of an expression that was made. -/
theorem format_fine {e : Ex} (hf : Fine 4 e) (ev : Value) (w : World) (he : IsEx w e ev) : Calls Tryd.prog 9 #[ev] w (JoinQ (fmtB e) 0 w) := by
  have b := bound4
  have h1 := hf.size; have h2 := hf.depth; have h3 := hf.len; have h4 := hf.wt
  have h5 := pcsB_joinPc_le (tokE e) true
  exact format_calls e ev w he hf.ok (by omega) (by omega) (by omega) (by unfold fmtB fmtPc; omega)
theorem fmtB_len {e : Ex} (hf : Fine 4 e) : (fmtB e).length ≤ 4445 := by
  have b := bound4
  have h4 := hf.wt
  have h5 := pcsB_joinPc_le (tokE e) true
  unfold fmtB fmtPc; omega
theorem ex_blk {w : World} {g : Nat} {l : List Ex} {xs : List ExV} {t : TypeId} (h : w.heap[g]? = some (.cells (xs.flatMap ExV.cells).toArray t (0, 0))) (hR : ExsR w l xs) : ExsD w l (some ⟨g, 0, none⟩) := by
  refine ExsD.of l 0 xs hR.1 fun i h1 h2 => ⟨fun j hj => ?_, hR.2 i h1 h2⟩
  rw [blk_cell h]
  have := flatMap_at ExV.cells 6 (fun _ => rfl) xs i h2 j (by rw [exV_len]; exact hj)
  rw [List.getElem?_eq_getElem (by rw [exV_len]; exact hj)]
  simpa using this
theorem isEx_list {w : World} {g : Nat} {op : Int} {l : List Ex} {xs : List ExV} {t : TypeId} {n : Nat} (h : w.heap[g]? = some (.cells (xs.flatMap ExV.cells).toArray t (0, 0))) (hR : ExsR w l xs) (hn : n = l.length) : IsEx w (.mk op ⟨#[]⟩ [] 0 0 l) (exV op ⟨#[]⟩ none 0 0 0 0 (some ⟨g, 0, none⟩) n n) := by
  subst hn
  exact IsEx.mk ⟨rfl, by omega, Or.inl ⟨rfl, rfl⟩, fun i hi => by simp at hi⟩ rfl (by simp) (Or.inr ⟨g, 0, rfl⟩) (ex_blk h hR)
theorem exsR_one {w : World} {a : Ex} {x : ExV} (h : IsEx w a x.val) : ExsR w [a] [x] := by
  have := (ExsR.nil w).snoc h
  simpa using this
theorem exsR_two {w : World} {a b : Ex} {x y : ExV} (h : IsEx w a x.val) (h2 : IsEx w b y.val) : ExsR w [a, b] [x, y] := by
  have := (exsR_one h).snoc h2
  simpa using this
theorem wantE_few {a b c : Ex} (ha : a.few) (hb : b.few) (hc : c.few) : (wantE a b c).few := by
  refine few_mk (by simp [wantE, Ex.words]) fun x hx => ?_
  simp only [wantE, Ex.args, List.mem_cons, List.not_mem_nil, or_false] at hx
  rcases hx with rfl | rfl
  · exact ha
  · refine few_mk (by simp [Ex.words]) fun x hx => ?_
    simp only [Ex.args, List.mem_cons, List.not_mem_nil, or_false] at hx
    rcases hx with rfl | rfl
    · refine few_mk (by simp [notE, Ex.words]) fun x hx => ?_
      simp only [notE, Ex.args, List.mem_cons, List.not_mem_nil, or_false] at hx
      subst hx; exact hb
    · exact hc
theorem wantE_size (a b c : Ex) : (wantE a b c).size = 3 + a.size + b.size + c.size := by
  simp [wantE, notE, Ex.size, sizes]; omega
theorem wantE_depth {a b c : Ex} (ha : a.depth ≤ 5) (hb : b.depth ≤ 5) (hc : c.depth ≤ 5) : (wantE a b c).depth ≤ 16 := by
  simp [wantE, notE, Ex.depth, depths]; omega
def ba (b : List UInt8) : ByteArray := ⟨b.toArray⟩
theorem ba_app (a b : List UInt8) : ba a ++ ba b = ba (a ++ b) := app_str a b
theorem bind_str (a b c : Ex) : (⟨#[40]⟩ ++ ⟨(fmtB a).toArray⟩ ++ ⟨#[41, 32, 111, 114, 32, 110, 111, 116, 32, 40]⟩ ++ ⟨(fmtB b).toArray⟩ ++ ⟨#[41, 32, 97, 110, 100, 32, 40]⟩ ++ ⟨(fmtB c).toArray⟩ ++ ⟨#[41]⟩ : ByteArray) = ⟨(pcsB (bindPc a b c)).toArray⟩ := by
  show ba [40] ++ ba (fmtB a) ++ ba [41, 32, 111, 114, 32, 110, 111, 116, 32, 40] ++ ba (fmtB b) ++ ba [41, 32, 97, 110, 100, 32, 40] ++ ba (fmtB c) ++ ba [41] = ba (pcsB (bindPc a b c))
  simp only [ba_app]
  congr 1
  simp only [bindPc, parPc, pcsB_append, fmtB]
  simp [pcsB, Pc.bytes, tokB, nameT, markT, wOr, wNot, wAnd]

theorem alloc5 (w : World) (o0 o1 o2 o3 o4 : Obj) : ((((((w.alloc o0).alloc o1).alloc o2).alloc o3).alloc o4).heap[w.heap.size]? = some o0) ∧ ((((((w.alloc o0).alloc o1).alloc o2).alloc o3).alloc o4).heap[w.heap.size + 1]? = some o1) ∧ ((((((w.alloc o0).alloc o1).alloc o2).alloc o3).alloc o4).heap[w.heap.size + 1 + 1]? = some o2) ∧
    ((((((w.alloc o0).alloc o1).alloc o2).alloc o3).alloc o4).heap[w.heap.size + 1 + 1 + 1]? = some o3) ∧ ((((((w.alloc o0).alloc o1).alloc o2).alloc o3).alloc o4).heap[w.heap.size + 1 + 1 + 1 + 1]? = some o4) ∧ Ext w (((((w.alloc o0).alloc o1).alloc o2).alloc o3).alloc o4) :=
  ⟨blk_alloc (blk_alloc (blk_alloc (blk_alloc (alloc_new w o0)))), blk_alloc (blk_alloc (blk_alloc (alloc_at (by simp)))), blk_alloc (blk_alloc (alloc_at (by simp))), blk_alloc (alloc_at (by simp)), alloc_at (by simp), (((((Ext.refl w).alloc _).alloc _).alloc _).alloc _).alloc _⟩
def opV (op : Int) (g n : Nat) : ExV := ⟨op, ⟨#[]⟩, none, 0, 0, 0, 0, some ⟨g, 0, none⟩, n, n⟩

set_option maxRecDepth 100000 in
set_option maxHeartbeats 4000000 in
theorem binds_calls (l1 l2 l3 : Option Addr) (n1 q1 n2 q2 n3 q3 : Nat) (w : World) (ho : HasOps w) (h1 : IntsAt w l1 n1) (h2 : IntsAt w l2 n2) (h3 : IntsAt w l3 n3) (g1 : n1 ≤ 1000000000000000) (g2 : n2 ≤ 1000000000000000) (g3 : n3 ≤ 1000000000000000) :
    Calls Tryd.prog 4 #[.slice l1 n1 q1, .slice l2 n2 q2, .slice l3 n3 q3] w (GivesE (.bool true) w) := by
  have HO := Lib.hid ho
  have H1 := Lib.hid h1
  have H2 := Lib.hid h2
  have H3 := Lib.hid h3
  clear ho h1 h2 h3
  go_enter Tryd.func4, Tryd.ntmps4
  go_wp2_with fail
  refine (lexpr_fine _ _ _ _ H1.out g1).mono ?_
  rintro r w1 ⟨a, xa, rfl, hfa, hia, hx1⟩
  have HFA := Lib.hid hfa
  have HIA := Lib.hid hia
  have HX1 := Lib.hid hx1
  clear hfa hia hx1
  go_wp2_with fail
  refine (lexpr_fine _ _ _ _ (H2.out.ext HX1.out) g2).mono ?_
  rintro r w2 ⟨b, xb, rfl, hfb, hib, hx2⟩
  have HFB := Lib.hid hfb
  have HIB := Lib.hid hib
  have HX2 := Lib.hid (HX1.out.trans hx2)
  have HIA := Lib.hid (HIA.out.ext hx2)
  clear hfb hib hx2
  go_wp2_with fail
  refine (lexpr_fine _ _ _ _ (H3.out.ext HX2.out) g3).mono ?_
  rintro r w3 ⟨c, xc, rfl, hfc, hic, hx3⟩
  have HFC := Lib.hid hfc
  have HIC := Lib.hid hic
  have HX3 := Lib.hid (HX2.out.trans hx3)
  have HIA := Lib.hid (HIA.out.ext hx3)
  have HIB := Lib.hid (HIB.out.ext hx3)
  clear hfc hic hx3
  unfold ExV.val exV
  go_upto_region 2 with fail
  have HXW := Lib.hid ((((Ext.refl w3).alloc (.cells xa.cells.toArray 26)).alloc (.cells xb.cells.toArray 26)).alloc (.cells xc.cells.toArray 26))
  have HBA := Lib.hid (blk_alloc (o' := .cells xc.cells.toArray 26) (blk_alloc (o' := .cells xb.cells.toArray 26) (alloc_new w3 (.cells xa.cells.toArray 26))))
  have HBB := Lib.hid (blk_alloc (o' := .cells xc.cells.toArray 26) (alloc_at (w := w3.alloc (.cells xa.cells.toArray 26)) (o := .cells xb.cells.toArray 26) (n := w3.heap.size + 1) (by simp)))
  have HBC := Lib.hid (alloc_at (w := (w3.alloc (.cells xa.cells.toArray 26)).alloc (.cells xb.cells.toArray 26)) (o := .cells xc.cells.toArray 26) (n := w3.heap.size + 1 + 1) (by simp))
  unfold ExV.cells at HXW HBA HBB HBC
  generalize ((w3.alloc (.cells [.int .i64 xa.op, .string xa.name, .slice xa.aw xa.nw xa.cw, .int .i64 xa.lo, .int .i64 xa.hi, .slice xa.aa xa.na xa.ca].toArray 26)).alloc (.cells [.int .i64 xb.op, .string xb.name, .slice xb.aw xb.nw xb.cw, .int .i64 xb.lo, .int .i64 xb.hi, .slice xb.aa xb.na xb.ca].toArray 26)).alloc (.cells [.int .i64 xc.op, .string xc.name, .slice xc.aw xc.nw xc.cw, .int .i64 xc.lo, .int .i64 xc.hi, .slice xc.aa xc.na xc.ca].toArray 26) = W4 at *
  have HX4 := Lib.hid (HX3.out.trans HXW.out)
  have HIA := Lib.hid (HIA.out.ext HXW.out)
  have HIB := Lib.hid (HIB.out.ext HXW.out)
  have HIC := Lib.hid (HIC.out.ext HXW.out)
  have hlA := fmtB_len HFA.out
  have hlB := fmtB_len HFB.out
  have hlC := fmtB_len HFC.out
  have HSTR := Lib.hid (bind_str a b c)
  obtain ⟨ts, hts⟩ := binds_scan HFA.out HFB.out HFC.out
  have HTS := Lib.hid hts
  have HWS := Lib.hid (wantE_size a b c)
  have HWD := Lib.hid (wantE_depth (c := c) HFA.out.depth HFB.out.depth HFC.out.depth)
  have HFEW := Lib.hid (wantE_few (okTree_fits a.size a (Nat.le_refl _) HFA.out.ok).2 (okTree_fits b.size b (Nat.le_refl _) HFB.out.ok).2 (okTree_fits c.size c (Nat.le_refl _) HFC.out.ok).2)
  have HSS := Lib.hid (show a.size ≤ 121 ∧ b.size ≤ 121 ∧ c.size ≤ 121 from ⟨HFA.out.size, HFB.out.size, HFC.out.size⟩)
  clear hts HX3 HXW
  obtain ⟨a0, a1, a2, a3, a4, a5, af⟩ := blk6 HBA.out
  have hla := blk_lt HBA.out
  go_wp2_with fail
  refine (format_fine HFA.out _ _ HIA.out).mono ?_
  rintro r w5 ⟨rfl, hx5⟩
  unfold bstr
  have HX5 := Lib.hid (HX4.out.trans hx5)
  have HBA := Lib.hid (hx5.blk HBA.out)
  have HBB := Lib.hid (hx5.blk HBB.out)
  have HBC := Lib.hid (hx5.blk HBC.out)
  have HIA := Lib.hid (HIA.out.ext hx5)
  have HIB := Lib.hid (HIB.out.ext hx5)
  have HIC := Lib.hid (HIC.out.ext hx5)
  clear hx5 a0 a1 a2 a3 a4 a5 af hla
  obtain ⟨a0, a1, a2, a3, a4, a5, af⟩ := blk6 HBB.out
  have hla := blk_lt HBB.out
  go_wp2_with fail
  refine (format_fine HFB.out _ _ HIB.out).mono ?_
  rintro r w6 ⟨rfl, hx6⟩
  unfold bstr
  have HX6 := Lib.hid (HX5.out.trans hx6)
  have HBA := Lib.hid (hx6.blk HBA.out)
  have HBB := Lib.hid (hx6.blk HBB.out)
  have HBC := Lib.hid (hx6.blk HBC.out)
  have HIA := Lib.hid (HIA.out.ext hx6)
  have HIB := Lib.hid (HIB.out.ext hx6)
  have HIC := Lib.hid (HIC.out.ext hx6)
  clear hx6 a0 a1 a2 a3 a4 a5 af hla
  obtain ⟨a0, a1, a2, a3, a4, a5, af⟩ := blk6 HBC.out
  have hla := blk_lt HBC.out
  go_wp2_with fail
  refine (format_fine HFC.out _ _ HIC.out).mono ?_
  rintro r w7 ⟨rfl, hx7⟩
  unfold bstr
  have HX7 := Lib.hid (HX6.out.trans hx7)
  have HBA := Lib.hid (hx7.blk HBA.out)
  have HBB := Lib.hid (hx7.blk HBB.out)
  have HBC := Lib.hid (hx7.blk HBC.out)
  have HIA := Lib.hid (HIA.out.ext hx7)
  have HIB := Lib.hid (HIB.out.ext hx7)
  have HIC := Lib.hid (HIC.out.ext hx7)
  clear hx7 a0 a1 a2 a3 a4 a5 af hla
  generalize fmtB a = A at *
  generalize fmtB b = B at *
  generalize fmtB c = C at *
  go_wp2_with fail
  rw [HSTR.out]
  by_cases hbig : 300 < (wantE a b c).size
  · have HC := Lib.hid (Parse_limit ⟨(pcsB (bindPc a b c)).toArray⟩ ts w7 (HO.out.ext HX7.out) (by have := HTS.out.2.2.2.2.1; simp [ByteArray.size]; omega) (no64_pcs HTS.out.2.2.2.2.2.2) HTS.out.1 (by have := HTS.out.2.2.1; omega) HTS.out.2.2.2.1 HTS.out.2.2.2.2.2.1 (tokensF_limit HTS.out.2.1 hbig))
    have HRS := Lib.hid (show refSize (wantE a b c) = 301 by unfold refSize; omega)
    clear hbig
    refine HC.out.mono ?_
    rintro r w8 ⟨xe, off, rfl, hie, -, hx8⟩
    unfold ExV.val exV
    have HX8 := Lib.hid (HX7.out.trans hx8)
    have HIE := Lib.hid (hie.mono (mask_sub _ _))
    have HBA := Lib.hid (hx8.blk HBA.out)
    have HBB := Lib.hid (hx8.blk HBB.out)
    have HBC := Lib.hid (hx8.blk HBC.out)
    have HIA := Lib.hid (HIA.out.ext hx8)
    have HIB := Lib.hid (HIB.out.ext hx8)
    have HIC := Lib.hid (HIC.out.ext hx8)
    clear hx8 hie
    obtain ⟨a0, a1, a2, a3, a4, a5, af⟩ := blk6 HBA.out
    obtain ⟨b0, b1, b2, b3, b4, b5, bf⟩ := blk6 HBB.out
    obtain ⟨c0, c1, c2, c3, c4, c5, cf⟩ := blk6 HBC.out
    have hla := blk_lt HBA.out
    have hlb := blk_lt HBB.out
    have hlc := blk_lt HBC.out
    go_upto_region 7 with fail
    obtain ⟨k0, k1, k2, k3, k4, k5⟩ := alloc5 w8 (.cells #[.int .i64 xe.op, .string xe.name, .slice xe.aw xe.nw xe.cw, .int .i64 xe.lo, .int .i64 xe.hi, .slice xe.aa xe.na xe.ca] 26) (.cells #[.int .i64 xb.op, .string xb.name, .slice xb.aw xb.nw xb.cw, .int .i64 xb.lo, .int .i64 xb.hi, .slice xb.aa xb.na xb.ca] 26) (.cells #[.int .i64 6, .string ⟨#[]⟩, .slice none 0 0, .int .i64 0, .int .i64 0, .slice (some ⟨w8.heap.size + 1, 0, none⟩) 1 1, .int .i64 xc.op, .string xc.name, .slice xc.aw xc.nw xc.cw, .int .i64 xc.lo, .int .i64 xc.hi, .slice xc.aa xc.na xc.ca] 26) (.cells #[.int .i64 xa.op, .string xa.name, .slice xa.aw xa.nw xa.cw, .int .i64 xa.lo, .int .i64 xa.hi, .slice xa.aa xa.na xa.ca, .int .i64 7, .string ⟨#[]⟩, .slice none 0 0, .int .i64 0, .int .i64 0, .slice (some ⟨w8.heap.size + 1 + 1, 0, none⟩) 2 2] 26) (.cells #[.int .i64 8, .string ⟨#[]⟩, .slice none 0 0, .int .i64 0, .int .i64 0, .slice (some ⟨w8.heap.size + 1 + 1 + 1, 0, none⟩) 2 2] 26)
    generalize ((((w8.alloc (.cells #[.int .i64 xe.op, .string xe.name, .slice xe.aw xe.nw xe.cw, .int .i64 xe.lo, .int .i64 xe.hi, .slice xe.aa xe.na xe.ca] 26)).alloc (.cells #[.int .i64 xb.op, .string xb.name, .slice xb.aw xb.nw xb.cw, .int .i64 xb.lo, .int .i64 xb.hi, .slice xb.aa xb.na xb.ca] 26)).alloc (.cells #[.int .i64 6, .string ⟨#[]⟩, .slice none 0 0, .int .i64 0, .int .i64 0, .slice (some ⟨w8.heap.size + 1, 0, none⟩) 1 1, .int .i64 xc.op, .string xc.name, .slice xc.aw xc.nw xc.cw, .int .i64 xc.lo, .int .i64 xc.hi, .slice xc.aa xc.na xc.ca] 26)).alloc (.cells #[.int .i64 xa.op, .string xa.name, .slice xa.aw xa.nw xa.cw, .int .i64 xa.lo, .int .i64 xa.hi, .slice xa.aa xa.na xa.ca, .int .i64 7, .string ⟨#[]⟩, .slice none 0 0, .int .i64 0, .int .i64 0, .slice (some ⟨w8.heap.size + 1 + 1, 0, none⟩) 2 2] 26)).alloc (.cells #[.int .i64 8, .string ⟨#[]⟩, .slice none 0 0, .int .i64 0, .int .i64 0, .slice (some ⟨w8.heap.size + 1 + 1 + 1, 0, none⟩) 2 2] 26) = W9 at *
    have HK0 := Lib.hid k0
    have HK4 := Lib.hid k4
    have HX9 := Lib.hid (HX8.out.trans k5)
    have HIE9 := Lib.hid (HIE.out.ext k5)
    have HNB := Lib.hid (show IsEx W9 (notE b) (opV 6 (w8.heap.size + 1) 1).val from isEx_list (xs := [xb]) (t := 26) k1 (exsR_one (HIB.out.ext k5)) rfl)
    have HND := Lib.hid (show IsEx W9 (.mk 7 ⟨#[]⟩ [] 0 0 [notE b, c]) (opV 7 (w8.heap.size + 1 + 1) 2).val from isEx_list (xs := [opV 6 (w8.heap.size + 1) 1, xc]) (t := 26) k2 (exsR_two HNB.out (HIC.out.ext k5)) rfl)
    have HNW := Lib.hid (show IsEx W9 (wantE a b c) (opV 8 (w8.heap.size + 1 + 1 + 1) 2).val from isEx_list (xs := [xa, opV 7 (w8.heap.size + 1 + 1) 2]) (t := 26) k3 (exsR_two (HIA.out.ext k5) HND.out) rfl)
    have hl4 := blk_lt k4
    obtain ⟨d0, d1, d2, d3, d4, d5, df⟩ := blk6 k4
    clear k0 k1 k2 k3 k4 k5 a0 a1 a2 a3 a4 a5 af b0 b1 b2 b3 b4 b5 bf c0 c1 c2 c3 c4 c5 cf hla hlb hlc HBA HBB HBC HIA HIB HIC HNB HND HIE HX8
    go_wp2_with fail
    refine (rsize_calls (wantE a b c).size _ _ _ (Nat.le_refl _) HNW.out).mono ?_
    rintro r w10 ⟨rfl, hx10⟩
    have HX10 := Lib.hid (HX9.out.trans hx10)
    rw [HRS.out]
    clear hx10 d0 d1 d2 d3 d4 d5 df
    go_wp2_with fail
    refine (awake_calls _ (HO.out.ext HX10.out)).mono ?_
    rintro r w11 ⟨rfl, hx11⟩
    go_wp2_with fail
    go_ret
    exact ⟨rfl, HX10.out.trans hx11⟩
  · have HC := Lib.hid (Parse_ok ⟨(pcsB (bindPc a b c)).toArray⟩ ts (wantE a b c) w7 (HO.out.ext HX7.out) (by have := HTS.out.2.2.2.2.1; simp [ByteArray.size]; omega) (no64_pcs HTS.out.2.2.2.2.2.2) HTS.out.1 (by have := HTS.out.2.2.1; omega) HTS.out.2.2.2.1 (tokensF_ok HTS.out.2.1 (by omega) HWD.out) [] (by simp))
    have HRS := Lib.hid (show refSize (wantE a b c) = (wantE a b c).size ∧ (wantE a b c).size ≤ 300 by unfold refSize; omega)
    clear hbig
    refine HC.out.mono ?_
    rintro r w8 ⟨xe, off, rfl, hie, -, hx8⟩
    unfold ExV.val exV
    have HX8 := Lib.hid (HX7.out.trans hx8)
    have HIE := Lib.hid (hie.mono (mask_sub _ _))
    have HBA := Lib.hid (hx8.blk HBA.out)
    have HBB := Lib.hid (hx8.blk HBB.out)
    have HBC := Lib.hid (hx8.blk HBC.out)
    have HIA := Lib.hid (HIA.out.ext hx8)
    have HIB := Lib.hid (HIB.out.ext hx8)
    have HIC := Lib.hid (HIC.out.ext hx8)
    clear hx8 hie
    obtain ⟨a0, a1, a2, a3, a4, a5, af⟩ := blk6 HBA.out
    obtain ⟨b0, b1, b2, b3, b4, b5, bf⟩ := blk6 HBB.out
    obtain ⟨c0, c1, c2, c3, c4, c5, cf⟩ := blk6 HBC.out
    have hla := blk_lt HBA.out
    have hlb := blk_lt HBB.out
    have hlc := blk_lt HBC.out
    go_upto_region 7 with fail
    obtain ⟨k0, k1, k2, k3, k4, k5⟩ := alloc5 w8 (.cells #[.int .i64 xe.op, .string xe.name, .slice xe.aw xe.nw xe.cw, .int .i64 xe.lo, .int .i64 xe.hi, .slice xe.aa xe.na xe.ca] 26) (.cells #[.int .i64 xb.op, .string xb.name, .slice xb.aw xb.nw xb.cw, .int .i64 xb.lo, .int .i64 xb.hi, .slice xb.aa xb.na xb.ca] 26) (.cells #[.int .i64 6, .string ⟨#[]⟩, .slice none 0 0, .int .i64 0, .int .i64 0, .slice (some ⟨w8.heap.size + 1, 0, none⟩) 1 1, .int .i64 xc.op, .string xc.name, .slice xc.aw xc.nw xc.cw, .int .i64 xc.lo, .int .i64 xc.hi, .slice xc.aa xc.na xc.ca] 26) (.cells #[.int .i64 xa.op, .string xa.name, .slice xa.aw xa.nw xa.cw, .int .i64 xa.lo, .int .i64 xa.hi, .slice xa.aa xa.na xa.ca, .int .i64 7, .string ⟨#[]⟩, .slice none 0 0, .int .i64 0, .int .i64 0, .slice (some ⟨w8.heap.size + 1 + 1, 0, none⟩) 2 2] 26) (.cells #[.int .i64 8, .string ⟨#[]⟩, .slice none 0 0, .int .i64 0, .int .i64 0, .slice (some ⟨w8.heap.size + 1 + 1 + 1, 0, none⟩) 2 2] 26)
    generalize ((((w8.alloc (.cells #[.int .i64 xe.op, .string xe.name, .slice xe.aw xe.nw xe.cw, .int .i64 xe.lo, .int .i64 xe.hi, .slice xe.aa xe.na xe.ca] 26)).alloc (.cells #[.int .i64 xb.op, .string xb.name, .slice xb.aw xb.nw xb.cw, .int .i64 xb.lo, .int .i64 xb.hi, .slice xb.aa xb.na xb.ca] 26)).alloc (.cells #[.int .i64 6, .string ⟨#[]⟩, .slice none 0 0, .int .i64 0, .int .i64 0, .slice (some ⟨w8.heap.size + 1, 0, none⟩) 1 1, .int .i64 xc.op, .string xc.name, .slice xc.aw xc.nw xc.cw, .int .i64 xc.lo, .int .i64 xc.hi, .slice xc.aa xc.na xc.ca] 26)).alloc (.cells #[.int .i64 xa.op, .string xa.name, .slice xa.aw xa.nw xa.cw, .int .i64 xa.lo, .int .i64 xa.hi, .slice xa.aa xa.na xa.ca, .int .i64 7, .string ⟨#[]⟩, .slice none 0 0, .int .i64 0, .int .i64 0, .slice (some ⟨w8.heap.size + 1 + 1, 0, none⟩) 2 2] 26)).alloc (.cells #[.int .i64 8, .string ⟨#[]⟩, .slice none 0 0, .int .i64 0, .int .i64 0, .slice (some ⟨w8.heap.size + 1 + 1 + 1, 0, none⟩) 2 2] 26) = W9 at *
    have HK0 := Lib.hid k0
    have HK4 := Lib.hid k4
    have HX9 := Lib.hid (HX8.out.trans k5)
    have HIE9 := Lib.hid (HIE.out.ext k5)
    have HNB := Lib.hid (show IsEx W9 (notE b) (opV 6 (w8.heap.size + 1) 1).val from isEx_list (xs := [xb]) (t := 26) k1 (exsR_one (HIB.out.ext k5)) rfl)
    have HND := Lib.hid (show IsEx W9 (.mk 7 ⟨#[]⟩ [] 0 0 [notE b, c]) (opV 7 (w8.heap.size + 1 + 1) 2).val from isEx_list (xs := [opV 6 (w8.heap.size + 1) 1, xc]) (t := 26) k2 (exsR_two HNB.out (HIC.out.ext k5)) rfl)
    have HNW := Lib.hid (show IsEx W9 (wantE a b c) (opV 8 (w8.heap.size + 1 + 1 + 1) 2).val from isEx_list (xs := [xa, opV 7 (w8.heap.size + 1 + 1) 2]) (t := 26) k3 (exsR_two (HIA.out.ext k5) HND.out) rfl)
    have hl4 := blk_lt k4
    obtain ⟨d0, d1, d2, d3, d4, d5, df⟩ := blk6 k4
    clear k0 k1 k2 k3 k4 k5 a0 a1 a2 a3 a4 a5 af b0 b1 b2 b3 b4 b5 bf c0 c1 c2 c3 c4 c5 cf hla hlb hlc HBA HBB HBC HIA HIB HIC HNB HND HIE HX8
    go_wp2_with fail
    refine (rsize_calls (wantE a b c).size _ _ _ (Nat.le_refl _) HNW.out).mono ?_
    rintro r w10 ⟨rfl, hx10⟩
    have HX10 := Lib.hid (HX9.out.trans hx10)
    rw [HRS.out.1]
    have hsz := HRS.out.2
    have HK0 := Lib.hid (hx10.blk HK0.out)
    have HK4 := Lib.hid (hx10.blk HK4.out)
    have HIE := Lib.hid (HIE9.out.ext hx10)
    have HNW := Lib.hid (HNW.out.ext hx10)
    have HSM := Lib.hid (rsame_calls (wantE a b c).size (wantE a b c) (wantE a b c) _ _ _ (Nat.le_refl _) (by omega) HIE.out HNW.out HFEW.out)
    clear hx10 d0 d1 d2 d3 d4 d5 df hl4
    have hl0 := blk_lt HK0.out
    have hl4 := blk_lt HK4.out
    obtain ⟨d0, d1, d2, d3, d4, d5, df⟩ := blk6 HK4.out
    obtain ⟨e0, e1, e2, e3, e4, e5, ef⟩ := blk6 HK0.out
    have ts1 : decide (300 < ((wantE a b c).size : Int)) = false := by simp; omega
    generalize (wantE a b c).size = N at *
    go_wp2_with fail
    refine HSM.out.mono ?_
    rintro r w11 ⟨B, rfl, hB, hx11⟩
    obtain rfl : B = true := hB.2 (by simp)
    have HX11 := Lib.hid (HX10.out.trans hx11)
    clear hx11 d0 d1 d2 d3 d4 d5 df e0 e1 e2 e3 e4 e5 ef
    go_wp2_with fail
    refine (awake_calls _ (HO.out.ext HX11.out)).mono ?_
    rintro r w12 ⟨rfl, hx12⟩
    go_wp2_with fail
    go_ret
    exact ⟨rfl, HX11.out.trans hx12⟩
end Go.Proofs.YtaepiiediblleaaDoor
