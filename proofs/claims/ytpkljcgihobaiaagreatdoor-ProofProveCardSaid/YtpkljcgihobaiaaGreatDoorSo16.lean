/-
  Texts of the claim, joined: GenC, RBerr, ROrd1, Seen, ROrd2, RCls.
-/
import Derived.Test.YtpkljcgihobaiaaGreatDoorSo15
namespace Go.Proofs.YtpkljcgihobaiaaGreatDoor
set_option maxRecDepth 100000
set_option maxHeartbeats 32000000
open Go.RowKit
def clV (v : ClV) : Value := .agg #[.int .i64 v.kind, .string v.name, .int .i64 v.x.op, .string v.x.name, .slice v.x.aw v.x.nw v.x.cw, .int .i64 v.x.lo, .int .i64 v.x.hi, .slice v.x.aa v.x.na v.x.ca, .slice v.au v.nu v.cu, .int .i64 v.amount]
def CGood (c : Cla) : Prop := c.cond.fits /\ c.cond.few /\ c.cond.size <= 1000 /\ bareE c.cond = true /\ wbOk c.unl /\ wbN c.unl <= 1000
def AmtOk (kind am : Int) : Prop := (mostOf kind = 0 /\ am = 0) \/ (0 < mostOf kind /\ 1 <= am /\ am <= mostOf kind)
def ClaQ (attrs : List Attr) (names : ZB) (kind : Int) (name : BA) (w0 : World) (bd : Nat) (M : ZN) (w : World) (e : Ending) (w' : World) : Prop := ∃ (c : Cla) (v : ClV), e = .returned (clV v) /\ c.kind = kind /\ c.name = name /\ MadeE attrs names 3 c.cond /\ (kind = 3 \/ c.unl = []) /\ AmtOk kind c.amount /\ CGood c /\ IsCla (mask w' M) c v /\ DeckAt w0 w' bd /\ Chg [bd] w w'
theorem mask_grow {W W' : World} {K N : ZN} (h : Chg K W W') (hk : ∀ y ∈ K, y ∈ N \/ W.heap.size <= y) : Sub (mask W N) (mask W' N) := mask_sub_mask fun k hlt hn => ⟨hn, h.block k hlt fun hm => by
 rcases hk k hm with h1 | h1
 ·exact hn h1
 omega⟩
def CutG (w0 wb : World) (bd bc br : Nat) (M : ZN) (kind : Int) (name : BA) (x : Ex) (xv : ExV) (zr : List Value) (wx : World) : Prop := ∃ (unl : List Wb) (au : OA) (nu cu : Nat), wx.heap[bc]? = some (.cells #[.int .i64 kind, .string name, .int .i64 xv.op, .string xv.name, .slice xv.aw xv.nw xv.cw, .int .i64 xv.lo, .int .i64 xv.hi, .slice xv.aa xv.na xv.ca, .slice au nu cu, .int .i64 0] 67 (0, 0)) /\
 wx.heap[br]? = some (.cells zr.toArray 67 (0, 0)) /\ nu = unl.length /\ nu <= cu /\ OkAddr au cu /\ WbsD (mask wx (bd :: bc :: br :: M)) unl au /\ IsEx (mask wx (bd :: bc :: br :: M)) x xv.val /\ wbOk unl /\ wbN unl <= 6 /\ DeckAt w0 wx bd /\ Chg [bd, bc] wb wx /\ (kind = 3 \/ unl = [])
theorem gcl_fin {attrs : List Attr} {names : ZB} {kind : Int} {name : BA} {w0 w w1 wb wx w5 W : World} {bd bc br : Nat} {M : ZN} {x : Ex} {xv : ExV} {ul : List Wb} {ua : OA} {un uc : Nat} {am : Int} (hmo : MadeE attrs names 3 x /\ MadeOk 3 x) (hku : kind = 3 \/ ul = []) (ham : AmtOk kind am) (hcw : Chg [bd] w w1) (hxb : Ext w1 wb) (hle : bd < w.heap.size /\ w.heap.size <= br /\ br < bc) (h0 : w0.heap.size <= w.heap.size)
  (hq : un = ul.length /\ un <= uc /\ OkAddr ua uc) (h4 : WbsD (mask wx (bd :: bc :: br :: M)) ul ua) (h6 : IsEx (mask wx (bd :: bc :: br :: M)) x xv.val) (h7 : wbOk ul /\ wbN ul <= 6) (h9 : Chg [bd, bc] wb wx) (hd5 : DeckAt w0 w5 bd) (hc5 : Chg [bd] wx w5) (hcs : Chg [bc, br] w5 W) :
  ClaQ attrs names kind name w0 bd M w (.returned (clV ⟨kind, name, xv, ua, un, uc, am⟩)) W := by
 have s1 : Sub (mask wx (bd :: bc :: br :: M)) (mask W M) := ((mask_grow hc5 (fun y hy => by simp at hy; simp [hy])).trans (mask_grow hcs (fun y hy => by simp at hy; rcases hy with rfl | rfl <;> simp))).trans (mask_less _ (fun y hy => by simp [hy]))
 refine ⟨⟨kind, name, x, ul, am⟩, _, rfl, rfl, rfl, hmo.1, hku, ham, ⟨hmo.2.fits, hmo.2.few, Nat.le_trans hmo.2.size (by simp [bndS]), hmo.2.bare, h7.1, Nat.le_trans h7.2 (by omega)⟩, ⟨rfl, rfl, h6.mono s1, hq.1, hq.2.1, hq.2.2, WbsD.mono s1 _ _ h4, rfl⟩, ?_, ?_⟩
 ·exact hd5.chg hcs (by simp; omega) (fun y hy => by simp at hy; omega)
 refine (((hcw.then (hxb.chg [bd])).trans h9 ?_).then hc5).trans hcs ?_
 ·intro y hy; simp at hy; rcases hy with rfl | rfl
  ·exact Or.inl (by simp)
  exact Or.inr (by omega)
 intro y hy; simp at hy; exact Or.inr (by omega)
theorem gclause_calls {attrs : List Attr} (hat : attrs ∈ schemas) (names : ZB) (hok : ∀ a ∈ attrs, OkAttr a) (hne : attrs ≠ []) (hl : attrs.length <= 1000) (hnl : names.length <= 1000) (hns : ∀ x ∈ names, x.size <= 1000) {w0 w : World} {bd : Nat} (hd : DeckAt w0 w bd) (sa : OA) (sn sc : Nat) (an : OA) (nn cn : Nat) (M : ZN) (hs : IsSchema (mask w [bd]) attrs (.agg #[.slice sa sn sc])) (hn : IsStrs (mask w [bd]) names an nn cn) (hM : ∀ y ∈ M, y < w.heap.size) (kind : Int) (name : BA) :
  Calls Tryz.prog 46 #[.pointer (some ⟨bd, 0, none⟩), .agg #[.slice sa sn sc], .int .i64 kind, .string name, .slice an nn cn] w (ClaQ attrs names kind name w0 bd M w) := by
 have hbw := hd.lt
 obtain ⟨wa, hwa⟩ : ∃ wa, wa = (w.alloc (.cells #[.slice sa sn sc] 31)).alloc (.cells #[.int .i64 0, .string ⟨#[]⟩, .int .i64 0, .string ⟨#[]⟩, .slice none 0 0, .int .i64 0, .int .i64 0, .slice none 0 0, .slice none 0 0, .int .i64 0] 67) := ⟨_, rfl⟩
 obtain ⟨br, hbr⟩ : ∃ br, br = w.heap.size + 1 := ⟨_, rfl⟩
 obtain ⟨bs, hbs⟩ : ∃ bs, bs = w.heap.size := ⟨_, rfl⟩
 have hxa : Ext w wa := by rw [hwa]; exact ((Ext.refl w).alloc _).alloc _
 have HXA := hI hxa
 have HBR := hI (show wa.heap[br]? = some (.cells #[.int .i64 0, .string ⟨#[]⟩, .int .i64 0, .string ⟨#[]⟩, .slice none 0 0, .int .i64 0, .int .i64 0, .slice none 0 0, .slice none 0 0, .int .i64 0] 67 (0, 0)) by rw [hwa, hbr]; exact alloc_at (by simp))
 have HBS := hI (show wa.heap[bs]? = some (.cells #[.slice sa sn sc] 31 (0, 0)) by rw [hwa, hbs]; exact ((Ext.refl _).alloc _).blk (alloc_new w _))
 have HSZ := hI (show wa.heap.size = w.heap.size + 2 by rw [hwa]; simp)
 have HD := hI (hd.ext hxa)
 have HS := hI hs
 have HN := hI hn
 have HM := hI hM
 have HBB := hI (show bd < bs /\ bs = w.heap.size /\ br = w.heap.size + 1 from ⟨by omega, hbs, hbr⟩)
 have HOKK := hI hok
 have HB0 := hI (show w0.heap.size <= w.heap.size by obtain ⟨_, _, _, _, _, _, _, _, hxw, _⟩ := hd; exact hxw.size)
 go_enter Tryz.func46, Tryz.ntmps46
 go_upto_region 1 with fail
 rw [<- hwa, <- hbr, <- hbs]
 clear hwa hbr hbs hxa hd hs hn hM hok hbw
 obtain ⟨b0, bf⟩ := blk1 HBS.out
 have HDX := hI (show Calls Tryz.prog 24 #[.pointer (some ⟨bd, 0, none⟩), .agg #[.slice sa sn sc], .slice an nn cn, .int .i64 3] wa (MadeQ (fun x => MadeE attrs names 3 x /\ MadeOk 3 x) w0 bd (bd :: br :: M) wa) from
  (dexpr_calls attrs names HOKK.out hne hl hnl 2 (by omega) HD.out sa sn sc an nn cn (bd :: br :: M) (HS.out.mono (mask_step (HXA.out.chg [bd]) (by simp))) (HN.out.mono (mask_step (HXA.out.chg [bd]) (by simp))) (fun y hy => by
   have h1 := HSZ.out; have h2 := HBB.out
   simp only [List.mem_cons] at hy
   rcases hy with rfl | rfl | hy
   ·omega
   ·omega
   have := HM.out y hy; omega)).mono fun e w' h => h.mono fun x hx => ⟨hx, made_okay hat hns 3 x hx⟩)
 go_wp2_with fail
 refine HDX.out.mono ?_
 rintro e w1 ⟨x, xv, rfl, hmo, hix, hd1, hc1⟩
 have HMO := hI hmo
 have HIX := hI hix
 have HD1 := hI hd1
 have HC1 := hI hc1
 clear hmo hix hd1 hc1 b0 bf HDX HD
 unfold ExV.val exV
 go_upto_region 2 with fail
 obtain ⟨bc, hbc⟩ : ∃ bc, bc = w1.heap.size := ⟨_, rfl⟩
 obtain ⟨wb, hwb⟩ : ∃ wb, wb = w1.alloc (.cells #[.int .i64 kind, .string name, .int .i64 xv.op, .string xv.name, .slice xv.aw xv.nw xv.cw, .int .i64 xv.lo, .int .i64 xv.hi, .slice xv.aa xv.na xv.ca, .slice none 0 0, .int .i64 0] 67) := ⟨_, rfl⟩
 have hxb : Ext w1 wb := by rw [hwb]; exact (Ext.refl _).alloc _
 have HXB := hI hxb
 have HBC := hI (show wb.heap[bc]? = some (.cells #[.int .i64 kind, .string name, .int .i64 xv.op, .string xv.name, .slice xv.aw xv.nw xv.cw, .int .i64 xv.lo, .int .i64 xv.hi, .slice xv.aa xv.na xv.ca, .slice none 0 0, .int .i64 0] 67 (0, 0)) by rw [hwb, hbc]; exact alloc_new w1 _)
 have h1s := HC1.out.size
 have HLE := hI (show bd < bs /\ bs < br /\ br < bc /\ bc < wb.heap.size by
  have := HBB.out; have := HSZ.out
  rw [hwb, hbc]
  simp
  omega)
 have HBR2 := hI (hxb.blk (HC1.out.blk HBR.out (by have := HLE.out; simp; omega)))
 have HBS2 := hI (hxb.blk (HC1.out.blk HBS.out (by have := HLE.out; simp; omega)))
 have HIX2 := hI (show IsEx (mask wb (bd :: bc :: br :: M)) x xv.val from HIX.out.mono (by
  rw [hwb]
  refine (mask_sub_mask fun k hk hn => ⟨?_, Below.heap_alloc w1 _ k hk⟩)
  simp only [List.mem_cons, not_or] at hn ⊢
  exact ⟨hn.1, by omega, hn.2.1, hn.2.2⟩))
 rw [<- hwb, <- hbc]
 have HCW := hI ((HXA.out.chg [bd]).then HC1.out)
 have HDB := hI (HD1.out.ext hxb)
 clear hwb hbc hxb h1s HBR HBS HIX HD1
 go_upto_if 21 with fail
 go_cut [] (CutG w0 wb bd bc br M kind name x xv [.int .i64 0, .string ⟨#[]⟩, .int .i64 0, .string ⟨#[]⟩, .slice none 0 0, .int .i64 0, .int .i64 0, .slice none 0 0, .slice none 0 0, .int .i64 0])
 case first =>
  by_cases h3 : kind = 3
  ·have t3 : (kind == 3) = true := by simp [h3]
   have HK3 := hI h3
   clear h3
   obtain ⟨b0, bf⟩ := blk1 HBS2.out
   have HBK := hI (show Calls Tryz.prog 66 #[.pointer (some ⟨bd, 0, none⟩), .agg #[.slice sa sn sc], .slice an nn cn, .int .i64 2] wb (BacksQ 2 w0 bd (bd :: bc :: br :: M) wb) from
    backs_calls hat names HOKK.out hne hl hnl hns 2 (by omega) HDB.out sa sn sc an nn cn (bd :: bc :: br :: M) (HS.out.mono (mask_step (HCW.out.then (HXB.out.chg [bd])) (by simp))) (HN.out.mono (mask_step (HCW.out.then (HXB.out.chg [bd])) (by simp))) (fun y hy => by
     have h1 := HSZ.out; have h2 := HBB.out; have h3 := HLE.out
     simp only [List.mem_cons] at hy
     rcases hy with rfl | rfl | rfl | hy
     ·omega
     ·omega
     ·omega
     have := HM.out y hy; omega))
   go_wp2_with fail
   refine HBK.out.mono ?_
   rintro e w2 ⟨ul, ua, un, uc, rfl, q1, q2, q3, q4, q5, q6, hd2, hc2⟩
   have hb2 := hc2.blk HBC.out (by have := HLE.out; simp; omega)
   obtain ⟨c0, c1, c2, c3, c4, c5, c6, c7, c8, c9, cf⟩ := blk10r hb2
   have HB2 := hI hb2
   have HR2 := hI (hc2.blk HBR2.out (by have := HLE.out; simp; omega))
   have HQ := hI (show un = ul.length /\ un <= uc /\ OkAddr ua uc /\ WbsD (mask w2 (bd :: bc :: br :: M)) ul ua /\ wbOk ul /\ wbN ul <= 6 from ⟨q1, q2, q3, q4, q5, q6⟩)
   have HD2 := hI hd2
   have HC2 := hI hc2
   clear q1 q2 q3 q4 q5 q6 hd2 hc2 hb2 b0 bf HBK
   go_wp2_with fail
   go_meet
   case rel =>
    have hcs : Chg [bd, bc] w2 (w2.setCell ⟨bc, 8, none⟩ (.slice ua un uc)) := (Chg.refl _ _).setCell (Or.inl (by simp)) _
    have hcs2 : Chg [bc] w2 (w2.setCell ⟨bc, 8, none⟩ (.slice ua un uc)) := (Chg.refl _ _).setCell (Or.inl (by simp)) _
    obtain ⟨q1, q2, q3, q4, q5, q6⟩ := HQ.out
    refine ⟨ul, ua, un, uc, ?_, ?_, q1, q2, q3, ?_, ?_, q5, q6, ?_, ?_, Or.inl HK3.out⟩
    ·rw [heap_setCell_same w2 bc 8 _ _ (.slice ua un uc) HB2.out]; simp
    ·exact hcs2.blk HR2.out (by have := HLE.out; simp; omega)
    ·exact WbsD.mono (mask_grow hcs (fun y hy => by simp at hy; rcases hy with rfl | rfl <;> simp)) _ _ q4
    ·exact (HIX2.out.mono (mask_step HC2.out (by simp))).mono (mask_grow hcs (fun y hy => by simp at hy; rcases hy with rfl | rfl <;> simp))
    ·exact HD2.out.chg hcs2 (by have := HLE.out; simp; omega) (fun y hy => by simp only [List.mem_singleton] at hy; have := HB0.out; have := HBB.out; have := HLE.out; omega)
    exact (HC2.out.weak (fun y hy => by simp at hy; simp [hy])).then hcs
  have t3 : (kind == 3) = false := by simp [h3]
  clear h3
  go_wp2_with fail
  go_meet
  case rel => exact ⟨[], none, 0, 0, HBC.out, HBR2.out, rfl, Nat.le_refl _, Or.inl ⟨rfl, rfl⟩, by unfold WbsD; trivial, HIX2.out, by unfold wbOk; trivial, by simp [wbN], HDB.out, Chg.refl _ _, Or.inr rfl⟩
 case rest =>
  obtain ⟨ul, ua, un, uc, hb, hr, q1, q2, q3, q4, q5, q6, q7, q8, q9, qA⟩ := hcut
  obtain ⟨wx, rfl⟩ : ∃ wx : World, wx = wc := ⟨_, rfl⟩
  obtain ⟨c0, c1, c2, c3, c4, c5, c6, c7, c8, c9, cf⟩ := blk10r hb
  obtain ⟨r0, r1, r2, r3, r4, r5, r6, r7, r8, r9, rf⟩ := blk10r hr
  have hbr : br ≠ bc := by have := HLE.out; omega
  have HB := hI hb
  have HR := hI hr
  have HQ := hI (show un = ul.length /\ un <= uc /\ OkAddr ua uc from ⟨q1, q2, q3⟩)
  have H4 := hI q4
  have H67 := hI (show IsEx (mask wx (bd :: bc :: br :: M)) x xv.val /\ wbOk ul /\ wbN ul <= 6 from ⟨q5, q6, q7⟩)
  have H8 := hI q8
  have H9 := hI q9
  have HA := hI qA
  clear hb hr q1 q2 q3 q4 q5 q6 q7 q8 q9 qA HBC HBR2 HIX2 HDB
  go_wp2_with fail
  refine (rMost_calls kind wx).mono ?_
  rintro e w4 ⟨rfl, rfl⟩
  have hmo : 0 <= mostOf kind /\ mostOf kind <= 1073741824 := by
   unfold mostOf
   split
   ·omega
   split <;> omega
  obtain ⟨m, hm⟩ : ∃ m, m = mostOf kind := ⟨_, rfl⟩
  rw [<- hm] at hmo ⊢
  have HMM := hI hm
  obtain ⟨hm0, hm1⟩ := hmo
  clear hm
  by_cases hmp : 0 < m
  ·have tm : decide (0 < m) = true := decide_eq_true hmp
   go_wp2_with fail
   refine (upto_calls H8.out (m - 1) (by omega) (by omega)).mono ?_
   rintro e w5 ⟨z, rfl, hz0, hz1, hd5, hc5⟩
   have hb5 := hc5.blk HB.out (by have := HLE.out; simp; omega)
   have hr5 := hc5.blk HR.out (by have := HLE.out; simp; omega)
   clear c0 c1 c2 c3 c4 c5 c6 c7 c8 c9 cf r0 r1 r2 r3 r4 r5 r6 r7 r8 r9 rf
   obtain ⟨c0, c1, c2, c3, c4, c5, c6, c7, c8, c9, cf⟩ := blk10r hb5
   obtain ⟨r0, r1, r2, r3, r4, r5, r6, r7, r8, r9, rf⟩ := blk10r hr5
   have HB5 := hI hb5
   have HR5 := hI hr5
   have HD5 := hI hd5
   have HC5 := hI hc5
   clear hb5 hr5 hd5 hc5
   go_wp2_with fail
   refine bodyPost_ret (v := clV ⟨kind, name, xv, ua, un, uc, 1 + z⟩) (by simp [results, Tryz.results46, go_sem, clV, r0, r1, r2, r3, r4, r5, r6, r7, r8, r9]) rfl ?_
   refine gcl_fin HMO.out HA.out (Or.inr (by rw [<- HMM.out]; omega)) HCW.out HXB.out (by have := HLE.out; have := HBB.out; omega) HB0.out HQ.out H4.out H67.out.1 H67.out.2 H9.out HD5.out HC5.out ?_
   repeat (with_reducible (refine Chg.setCell ?_ (Or.inl (by simp)) _))
   exact Chg.refl _ _
  have tm : decide (0 < m) = false := decide_eq_false hmp
  go_wp2_with fail
  refine bodyPost_ret (v := clV ⟨kind, name, xv, ua, un, uc, 0⟩) (by simp [results, Tryz.results46, go_sem, clV, r0, r1, r2, r3, r4, r5, r6, r7, r8, r9]) rfl ?_
  refine gcl_fin HMO.out HA.out (Or.inl ⟨by rw [<- HMM.out]; omega, rfl⟩) HCW.out HXB.out (by have := HLE.out; have := HBB.out; omega) HB0.out HQ.out H4.out H67.out.1 H67.out.2 H9.out H8.out (Chg.refl _ _) ?_
  repeat (with_reducible (refine Chg.setCell ?_ (Or.inl (by simp)) _))
  exact Chg.refl _ _
def itemErr (s : List Attr) (l : List Cla) (x : Wb) : Int := if nodesErr s l x.cond ≠ 0 then nodesErr s l x.cond else backsErr s l x.unl
theorem itemErr_mk (s : List Attr) (l : List Cla) (n : BA) (c : Ex) (u : List Wb) : itemErr s l (.mk n c u) = if nodesErr s l c ≠ 0 then nodesErr s l c else backsErr s l u := rfl
theorem backsErr_cons (s : List Attr) (l : List Cla) (x : Wb) (r : List Wb) : backsErr s l (x :: r) = if itemErr s l x ≠ 0 then itemErr s l x else backsErr s l r := by
 obtain ⟨n, c, u⟩ := x
 rw [backsErr, itemErr_mk]
 by_cases hn : nodesErr s l c = 0
 ·simp [hn]
 simp [hn]
theorem backsErr_zero {s : List Attr} {l : List Cla} : (r : List Wb) -> (∀ j (h : j < r.length), itemErr s l r[j] = 0) -> backsErr s l r = 0
 | [], _ => by rw [backsErr]
 | x :: r, h => by
  have h0 : itemErr s l x = 0 := h 0 (by simp)
  have hr := backsErr_zero r fun j hj => by have := h (j + 1) (by simpa using hj); simpa using this
  rw [backsErr_cons, h0, hr]; simp
theorem backsErr_hit {s : List Attr} {l : List Cla} : (r : List Wb) -> (k : Nat) -> (hk : k < r.length) -> itemErr s l r[k] ≠ 0 -> (∀ j (h : j < k), itemErr s l (r[j]'(by omega)) = 0) -> backsErr s l r = itemErr s l r[k]
 | [], k, hk, _, _ => by simp at hk
 | x :: r, 0, _, h, _ => by
  have h' : itemErr s l x ≠ 0 := h
  show backsErr s l (x :: r) = itemErr s l x
  rw [backsErr_cons, if_pos h']
 | x :: r, k + 1, hk, h, h0 => by
  have h1 : itemErr s l x = 0 := h0 0 (by omega)
  have hr := backsErr_hit r k (by simpa using hk) (by simpa using h) fun j hj => by have := h0 (j + 1) (by omega); simpa using this
  simp only [List.getElem_cons_succ]
  rw [backsErr_cons, h1, hr]; simp
def itemLarge (l : List Cla) (x : Wb) : Bool := decide (2000 < expanded l x.cond) || backsLarge l x.unl
theorem backsLarge_any (l : List Cla) : (r : List Wb) -> backsLarge l r = r.any (itemLarge l)
 | [] => by simp [backsLarge]
 | .mk n c u :: r => by rw [backsLarge, backsLarge_any l r]; rfl
theorem rbackErr_calls (s : List Attr) (l : List Cla) (hf : ∀ x ∈ s, x.fits) (hsl : s.length <= 1000000000000000) (a : OA) (n c : Nat) (hn : n <= 1000000000000000) (m : Nat) : ∀ (r : List Wb) (ra : OA) (rn rc : Nat) (sv : Value) (w : World), wbN r < m -> m <= 1000000000000000 -> wbOk r -> IsSchema w s sv -> IsClas w l a n c -> WbsD w r ra -> rn = r.length ->
  Calls Tryz.prog 59 #[sv, .slice a n c, .slice ra rn rc] w (GivesE (.int .i64 (backsErr s l r)) w) := by
 induction m with
 | zero => intro r ra rn rc sv w h; omega
 | succ m ih =>
  intro r ra rn rc sv w hm hM hok hs hl hd hrn
  obtain ⟨sa, sn, sc, rfl, hsn⟩ := hs.slice
  have hrl := wbN_len r
  have hrn2 : rn <= 1000000000000000 := by omega
  have HS := hI hs
  have HL := hI hl
  have HD := hI hd
  have HRN := hI hrn
  have HOK := hI hok
  have IH := hI ih
  have HF := hI hf
  clear hs hl hd hrn hok ih hsn hf
  go_enter Tryz.func59, Tryz.ntmps59
  go_wp2_with fail
  go_loopw [7] (fun t wr => ∃ k : Nat, t = .int .i64 k /\ k <= rn /\ (∀ j (h : j < r.length), j < k -> itemErr s l r[j] = 0) /\ wr.heap[w.heap.size]? = some (.cells #[.slice sa sn sc] 31 (0, 0)) /\ Ext w wr) (fun t _ => rn - (intOf t).toNat)
  case atStart => exact ⟨0, rfl, by omega, fun j _ h => by omega, alloc_new w _, (Ext.refl w).alloc _⟩
  case round =>
   obtain ⟨k, rfl, hk, hno, hbx, hxr⟩ := hrel
   have HNO := hI hno
   have HBX := hI hbx
   have HXR := hI hxr
   obtain ⟨d0, df⟩ := blk1 hbx
   clear hno hbx hxr
   by_cases hkn : k < rn
   ·have hkl : k < r.length := by have := HRN.out; omega
    have t1 : decide ((k : Int) < (rn : Int)) = true := decide_eq_true (by omega)
    obtain ⟨b, off, rfl, v, hv0, hrow, hv2, hv3, hv4, hv5, hv6⟩ := WbsD.at r _ (WbsD.mono HXR.out.sub _ _ HD.out) k hkl
    obtain ⟨c0, c1, c2, c3, c4, c5, c6, c7⟩ := hrow.eight
    obtain ⟨ho1, ho2, ho3, ho4, ho5⟩ := wbOk_at r HOK.out k hkl
    have hwn := wbN_at r k hkl
    have HUU := hI hv6
    have HUN := hI hv3
    have HEX := hI hv2
    have HO3 := hI ho3
    have HO5 := hI ho5
    have ti0 : (0 : Int) <= (k : Int) := by omega
    have ti1 : (k : Int) < (rn : Int) := by omega
    clear hrow hv0 hv2 hv3 hv4 hv5 hv6 ho2 ho3 ho5 ho1
    go_wp2_with fail
    go_still_tail 7, (by kernel_rfl)
    change wpList _ _ _ _ _ wr.drew
    have hx2 : Ext wr wr.drew := (Ext.refl wr).drew
    generalize wr.drew = w2 at hx2 ⊢
    have HX2 := hI (HXR.out.trans hx2)
    have HB2 := hI (hx2.blk HBX.out)
    have HEX2 := hI (HEX.out.ext hx2)
    have c7' := hx2.cell c7
    have HU2 := hI (WbsD.mono hx2.sub _ _ HUU.out)
    clear hx2 d0 df c0 c1 c2 c3 c4 c5 c6 c7
    go_wp2_with fail
    refine (rnodesErr_calls s l HF.out hsl a n c hn 1000000000000000 r[k].cond _ _ w2 ho4 (by omega) HO3.out (HS.out.ext HX2.out) (HL.out.ext HX2.out) HEX2.out).mono ?_
    rintro e w3 ⟨rfl, hx3⟩
    have HX3 := hI (HX2.out.trans hx3)
    have HB3 := hI (hx3.blk HB2.out)
    obtain ⟨d0, df⟩ := blk1 (hx3.blk HB2.out)
    have c73 := hx3.cell c7'
    have HU3 := hI (WbsD.mono hx3.sub _ _ HU2.out)
    clear hx3 c7'
    by_cases hz : nodesErr s l r[k].cond = 0
    ·have tz : (nodesErr s l r[k].cond != 0) = false := by simp [hz]
     have HIE := hI (show itemErr s l r[k] = backsErr s l r[k].unl by unfold itemErr; rw [if_neg (by simp [hz])])
     clear hz
     go_wp2_with fail
     go_still_tail 7, (by kernel_rfl)
     change wpList _ _ _ _ _ w3.drew
     have hx4 : Ext w3 w3.drew := (Ext.refl w3).drew
     generalize w3.drew = w4 at hx4 ⊢
     have HX4 := hI (HX3.out.trans hx4)
     have HB4 := hI (hx4.blk HB3.out)
     have HU4 := hI (WbsD.mono hx4.sub _ _ HU3.out)
     clear hx4 d0 df c73
     go_wp2_with fail
     refine (IH.out r[k].unl _ _ _ _ w4 (by omega) (by omega) HO5.out (HS.out.ext HX4.out) (HL.out.ext HX4.out) HU4.out HUN.out).mono ?_
     rintro e w5 ⟨rfl, hx5⟩
     have HX5 := hI (HX4.out.trans hx5)
     have HB5 := hI (hx5.blk HB4.out)
     clear hx5
     by_cases hy : backsErr s l r[k].unl = 0
     ·have ty : (backsErr s l r[k].unl != 0) = false := by simp [hy]
      have HY := hI hy
      clear hy
      go_wp2_with fail
      go_roundw
      case rel =>
       refine ⟨k + 1, by go_num, by omega, fun j hj hjk => ?_, HB5.out, HX5.out⟩
       by_cases e' : j = k
       ·subst e'; rw [HIE.out]; exact HY.out
       exact HNO.out j hj (by omega)
      case measure => simp [intOf]; omega
     have ty : (backsErr s l r[k].unl != 0) = true := by simp [hy]
     have HR := hI (show backsErr s l r = backsErr s l r[k].unl by rw [<- HIE.out]; exact backsErr_hit r k hkl (by rw [HIE.out]; exact hy) fun j hj => HNO.out j (by omega) hj)
     clear hy
     go_wp2_with fail
     go_ret
     exact givesE_of (by rw [HR.out]) HX5.out
    have tz : (nodesErr s l r[k].cond != 0) = true := by simp [hz]
    have HIE : itemErr s l r[k] = nodesErr s l r[k].cond := by unfold itemErr; rw [if_pos hz]
    have HR := hI (show backsErr s l r = nodesErr s l r[k].cond by rw [<- HIE]; exact backsErr_hit r k hkl (by rw [HIE]; exact hz) fun j hj => HNO.out j (by omega) hj)
    clear hz HIE
    go_wp2_with fail
    go_ret
    exact givesE_of (by rw [HR.out]) HX3.out
   have t1 : decide ((k : Int) < (rn : Int)) = false := decide_eq_false (by omega)
   have HR := hI (show backsErr s l r = 0 from backsErr_zero r fun j hj => HNO.out j hj (by have := HRN.out; omega))
   go_wp2_with fail
   go_ret
   exact givesE_of (by rw [HR.out]) HXR.out
theorem rbackLarge_calls (l : List Cla) (a : OA) (n c : Nat) (hn : n <= 1000000) (hsz : ∀ x ∈ l, x.cond.size <= 1000000000000000) (m : Nat) : ∀ (r : List Wb) (ra : OA) (rn rc : Nat) (w : World), wbN r < m -> m <= 1000000000000000 -> wbOk r -> IsClas w l a n c -> WbsD w r ra -> rn = r.length ->
  Calls Tryz.prog 61 #[.slice a n c, .slice ra rn rc] w (GivesE (.bool (backsLarge l r)) w) := by
 induction m with
 | zero => intro r ra rn rc w h; omega
 | succ m ih =>
  intro r ra rn rc w hm hM hok hl hd hrn
  have hrl := wbN_len r
  have hrn2 : rn <= 1000000000000000 := by omega
  have HL := hI hl
  have HD := hI hd
  have HRN := hI hrn
  have HOK := hI hok
  have IH := hI ih
  have HSZ := hI hsz
  obtain ⟨R, hR⟩ : ∃ R, R = backsLarge l r := ⟨_, rfl⟩
  rw [<- hR]
  have HR := hI (show R = r.any (itemLarge l) by rw [hR]; exact backsLarge_any l r)
  clear hl hd hrn hok ih hR hsz
  go_enter Tryz.func61, Tryz.ntmps61
  go_wp2_with fail
  go_loopw [5] (fun t wr => ∃ k : Nat, t = .int .i64 k /\ k <= rn /\ (∀ j (h : j < r.length), j < k -> itemLarge l r[j] = false) /\ Ext w wr) (fun t _ => rn - (intOf t).toNat)
  case atStart => exact ⟨0, rfl, by omega, fun j _ h => by omega, Ext.refl _⟩
  case round =>
   obtain ⟨k, rfl, hk, hno, hxr⟩ := hrel
   have HNO := hI hno
   have HXR := hI hxr
   clear hno hxr
   by_cases hkn : k < rn
   ·have hkl : k < r.length := by have := HRN.out; omega
    have t1 : decide ((k : Int) < (rn : Int)) = true := decide_eq_true (by omega)
    obtain ⟨b, off, rfl, v, hv0, hrow, hv2, hv3, hv4, hv5, hv6⟩ := WbsD.at r _ (WbsD.mono HXR.out.sub _ _ HD.out) k hkl
    obtain ⟨c0, c1, c2, c3, c4, c5, c6, c7⟩ := hrow.eight
    obtain ⟨ho1, ho2, ho3, ho4, ho5⟩ := wbOk_at r HOK.out k hkl
    have hwn := wbN_at r k hkl
    have HUU := hI hv6
    have HUN := hI hv3
    have HEX := hI hv2
    have HO5 := hI ho5
    clear hrow hv0 hv2 hv3 hv4 hv5 hv6 ho2 ho3 ho5 ho1
    go_wp2_with fail
    refine (rExpanded_calls l a n c hn HSZ.out r[k].cond _ wr ho4 (HL.out.ext HXR.out) HEX.out).mono ?_
    rintro e w3 ⟨rfl, hx3⟩
    have HX3 := hI (HXR.out.trans hx3)
    have c73 := hx3.cell c7
    have HU3 := hI (WbsD.mono hx3.sub _ _ HUU.out)
    clear hx3 c0 c1 c2 c3 c4 c5 c6 c7
    have HIL := hI (show itemLarge l r[k] = (decide (2000 < expanded l r[k].cond) || backsLarge l r[k].unl) from rfl)
    obtain ⟨E, hE⟩ : ∃ E, E = expanded l r[k].cond := ⟨_, rfl⟩
    rw [<- hE]
    rw [<- hE] at HIL
    clear hE
    by_cases hz : 2000 < E
    ·have tz : decide ((2000 : Int) < (E : Int)) = true := decide_eq_true (by omega)
     have HF := hI (show R = true by
      rw [HR.out, List.any_eq_true]
      exact ⟨r[k], List.getElem_mem hkl, by rw [HIL.out, decide_eq_true hz]; rfl⟩)
     go_wp2_with fail
     go_ret
     exact givesE_b (by rw [HF.out]) HX3.out
    have tz : decide ((2000 : Int) < (E : Int)) = false := decide_eq_false (by omega)
    rw [decide_eq_false hz, Bool.false_or] at HIL
    go_wp2_with fail
    refine (IH.out r[k].unl _ _ _ w3 (by omega) (by omega) HO5.out (HL.out.ext HX3.out) HU3.out HUN.out).mono ?_
    rintro e w5 ⟨rfl, hx5⟩
    have HX5 := hI (HX3.out.trans hx5)
    clear hx5 c73
    cases hb : backsLarge l r[k].unl
    ·have HI2 := hI (HIL.out.trans hb)
     clear hb
     go_wp2_with fail
     go_roundw
     case rel =>
      refine ⟨k + 1, by go_num, by omega, fun j hj hjk => ?_, HX5.out⟩
      by_cases e' : j = k
      ·subst e'; exact HI2.out
      exact HNO.out j hj (by omega)
     case measure => simp [intOf]; omega
    have HF := hI (show R = true by
     rw [HR.out, List.any_eq_true]
     exact ⟨r[k], List.getElem_mem hkl, by rw [HIL.out, hb]⟩)
    go_wp2_with fail
    go_ret
    exact givesE_b (by rw [HF.out]) HX5.out
   have t1 : decide ((k : Int) < (rn : Int)) = false := decide_eq_false (by omega)
   have HF := hI (show R = false by
    rw [HR.out, List.any_eq_false]
    intro x hx
    obtain ⟨j, hj, rfl⟩ := List.mem_iff_getElem.1 hx
    have := HNO.out j hj (by have := HRN.out; omega)
    simp [this])
   go_wp2_with fail
   go_ret
   exact givesE_b (by rw [HF.out]) HXR.out
structure RInv (l : List Dfn) (o : ZN) : Prop where
 nodup : o.Nodup
 sub : ∀ i ∈ o, isDef l i = true
 after : After l o
theorem RInv.start (l : List Dfn) : RInv l [] := ⟨List.nodup_nil, by simp, fun p i h => by simp at h⟩
theorem RInv.snoc {l : List Dfn} {o : ZN} {p : Nat} (h : RInv l o) (hd : isDef l p = true) (hp : p ∉ o) (hm : missL l o p = []) : RInv l (o ++ [p]) where
 nodup := List.nodup_append.2 ⟨h.nodup, by simp, fun a ha b hb e => hp (by simp at hb; rw [<- hb, <- e]; exact ha)⟩
 sub i hi := by
  rcases List.mem_append.1 hi with h1 | h1
  ·exact h.sub i h1
  simp at h1; rw [h1]; exact hd
 after := h.after.snoc hm
theorem RInv.le {l : List Dfn} {o : ZN} (h : RInv l o) : o.length <= countOf l := nodup_le _ _ h.nodup fun i hi => mem_defs.2 (h.sub i hi)
theorem RInv.lt {l : List Dfn} {o : ZN} {p : Nat} (h : RInv l o) (hd : isDef l p = true) (hp : p ∉ o) : o.length < countOf l := by
 have := nodup_le (p :: o) ((List.range l.length).filter (isDef l)) (List.nodup_cons.2 ⟨hp, h.nodup⟩) (fun i hi => by
  rcases List.mem_cons.1 hi with rfl | hi
  ·exact mem_defs.2 hd
  exact mem_defs.2 (h.sub i hi))
 simp only [List.length_cons] at this
 unfold countOf
 omega
theorem RInv.done {l : List Dfn} {o : ZN} (h : RInv l o) (ha : ∀ i, isDef l i = true -> i ∈ o) : Topo l o := ⟨h.nodup, fun i => ⟨h.sub i, ha i⟩, h.after⟩
theorem RInv.stuck {l : List Dfn} {o : ZN} (hs : ∀ i, isDef l i = true -> i ∉ o -> missL l o i ≠ []) {p : Nat} (hd : isDef l p = true) (hp : p ∉ o) : ¬ Sorts l := by
 rintro ⟨q, hq⟩
 have key : ∀ (p i : Nat), q[p]? = some i -> i ∈ o := by
  intro p
  induction p using Nat.strongRecOn with
  | ind p ih =>
   intro i hi
   refine Classical.byContradiction fun hio => ?_
   refine hs i ((hq.all i).1 (List.mem_of_getElem? hi)) hio (miss_nil.2 fun s hs d hd => ?_)
   obtain ⟨k, hk⟩ := List.mem_iff_getElem?.1 (hq.after p i hi s hs d hd)
   have hkp : k < p := by
    rcases Nat.lt_or_ge k p with h' | h'
    ·exact h'
    rw [List.getElem?_eq_none (by simp; omega)] at hk; cases hk
   rw [List.getElem?_take, if_pos hkp] at hk
   exact ih k hkp d hk
 obtain ⟨k, hk⟩ := List.mem_iff_getElem?.1 ((hq.all p).2 hd)
 exact hp (key k p hk)
theorem elemBools : ElemT 122 4 (.bool false) 1 1 := ⟨by kernel_rfl, by kernel_rfl, rfl, by omega⟩
structure SeenAt (bs : Nat) (L : List Bool) (w : World) : Prop where
 row : ∃ cur : Array Value, w.heap[bs]? = some (.cells cur 4 (0, 0)) /\ cur.toList = L.map Value.bool
theorem SeenAt.cell {bs : Nat} {L : List Bool} {w : World} (h : SeenAt bs L w) {i : Nat} (hi : i < L.length) : w.cell? ⟨bs, i, none⟩ = some (.bool L[i]) := by
 obtain ⟨cur, h1, h2⟩ := h.row
 rw [blk_cell h1]
 have : cur.toList[i]? = some (.bool L[i]) := by rw [h2]; simp [hi]
 simpa using this
theorem SeenAt.free {bs : Nat} {L : List Bool} {w : World} (h : SeenAt bs L w) (i : Nat) : w.frozen? ⟨bs, i, none⟩ = false := by
 obtain ⟨cur, h1, h2⟩ := h.row
 exact blk_free h1 i
theorem SeenAt.lt {bs : Nat} {L : List Bool} {w : World} (h : SeenAt bs L w) : bs < w.heap.size := by
 obtain ⟨cur, h1, h2⟩ := h.row
 exact blk_lt h1
theorem SeenAt.ext {bs : Nat} {L : List Bool} {w w' : World} (h : SeenAt bs L w) (hx : Ext w w') : SeenAt bs L w' := by
 obtain ⟨cur, h1, h2⟩ := h.row
 exact ⟨cur, hx.blk h1, h2⟩
theorem SeenAt.set {bs : Nat} {L : List Bool} {w : World} (h : SeenAt bs L w) (i : Nat) (b : Bool) : SeenAt bs (L.set i b) (w.setCell ⟨bs, i, none⟩ (.bool b)) := by
 obtain ⟨cur, h1, h2⟩ := h.row
 refine ⟨_, heap_setCell_same w bs i _ _ (.bool b) h1, ?_⟩
 simp [h2, List.map_set]
theorem SeenAt.of_owns {w : World} {base bs n : Nat} (h : w.ownsRow base 4 1 (.slice (some ⟨bs, 0, none⟩) n n) n (madeCells #[Value.bool false] n).toList) : SeenAt bs (List.replicate n false) w := by
 rcases h.2 with ⟨h0, _⟩ | ⟨g, cap, cur, hv, _, hg, _, _, hs, ht⟩
 ·simp at h0
 simp only [Value.slice.injEq, Option.some.injEq, Addr.mk.injEq, and_true, true_and] at hv
 obtain ⟨rfl, rfl⟩ := hv
 refine ⟨cur, hg, ?_⟩
 have e1 : cur.toList.take (n * 1) = cur.toList := List.take_of_length_le (by simp; omega)
 rw [e1] at ht
 rw [ht]
 simp only [madeCells, List.map_replicate]
 apply List.ext_getElem
 ·simp
 intro i h1 h2
 simp [Nat.mod_one]
def marks (o : ZN) (n : Nat) : List Bool := (List.range n).map fun j => decide (j ∈ o)
theorem marks_nil (n : Nat) : marks [] n = List.replicate n false := by simp [marks, List.map_const']
theorem marks_len (o : ZN) (n : Nat) : (marks o n).length = n := by simp [marks]
theorem marks_at {o : ZN} {n j : Nat} (hj : j < n) : (marks o n)[j]'(by rw [marks_len]; exact hj) = decide (j ∈ o) := by simp [marks]
theorem marks_set (o : ZN) (n p : Nat) : (marks o n).set p true = marks (o ++ [p]) n := by
 apply List.ext_getElem
 ·simp [marks]
 intro j h1 h2
 have hj : j < n := by simpa [marks] using h2
 have e1 : (marks (o ++ [p]) n)[j] = decide (j ∈ o ++ [p]) := marks_at hj
 have e2 : (marks o n)[j]'(by rw [marks_len]; exact hj) = decide (j ∈ o) := marks_at hj
 rw [e1, List.getElem_set]
 by_cases e : p = j
 ·subst e; simp
 rw [if_neg e, e2]
 congr 1
 simp only [List.mem_append, List.mem_singleton]
 exact propext ⟨Or.inl, fun h => h.resolve_right fun h => e h.symm⟩
theorem elemIntsR : ElemT 22 3 (.int .i64 0) 1 8 := ⟨by kernel_rfl, by kernel_rfl, rfl, by omega⟩
def natCs (l : ZN) : List Value := l.map fun (i : Nat) => Value.int .i64 (i : Int)
theorem owns_formR {w : World} {base : Nat} {e : TypeId} {size : Nat} {v : Value} {n : Nat} {xs : List Value} (h : w.ownsRow base e size v n xs) : ∃ a c, v = .slice a n c := by
 rcases h.2 with ⟨rfl, h0⟩ | ⟨g, cap, cur, rfl, _⟩
 ·exact ⟨none, 0, by rw [h0]⟩
 exact ⟨_, _, rfl⟩
def ROrdQ (l : List Dfn) (w : World) (e : Ending) (w' : World) : Prop := Ext w w' /\ ((Sorts l /\ ∃ a n c, e = .returned (.tuple #[.slice a n c, .int .i64 0])) \/ (¬ Sorts l /\ e = .returned (.tuple #[.slice none 0 0, .int .i64 10])))
def RO1 (w wb : World) (l : List Dfn) (bs n m : Nat) (v : Value) (wr : World) : Prop := ∃ o, m = countOf l - o.length /\ RInv l o /\ wr.ownsRow wb.heap.size 3 1 v o.length (natCs o) /\ SeenAt bs (marks o n) wr /\ Ext w wr /\ wb.heap.size <= wr.heap.size
def RO2 (w3 : World) (l : List Dfn) (o : ZN) (n : Nat) (nx lf i : Value) (wr : World) : Prop := ∃ k : Nat, i = .int .i64 k /\ k <= n /\ Ext w3 wr /\
 ((nx = .int .i64 (-1) /\ (∃ b : Bool, lf = .bool b /\ (b = true ↔ ∃ j, j < k /\ isDef l j = true /\ j ∉ o)) /\ ∀ j, j < k -> isDef l j = true -> j ∉ o -> missL l o j ≠ []) \/ (∃ (p : Nat) (b : Bool), nx = .int .i64 p /\ lf = .bool b /\ p < n /\ isDef l p = true /\ p ∉ o /\ missL l o p = []))
def RO3 (w5 : World) (l : List Dfn) (o : ZN) (nm : ZB) (rd i : Value) (wr : World) : Prop := ∃ (k : Nat) (b : Bool), i = .int .i64 k /\ k <= nm.length /\ rd = .bool b /\ (b = true ↔ ∀ s ∈ nm.take k, ∀ d, firstAt l s = some d -> d ∈ o) /\ Ext w5 wr
theorem ro3_step {l : List Dfn} {o : ZN} {nm : ZB} {k : Nat} (hk : k < nm.length) {b : Bool} (h : b = true ↔ ∀ s ∈ nm.take k, ∀ d, firstAt l s = some d -> d ∈ o) {b' : Bool} (hb : b' = true ↔ ∀ d, firstAt l nm[k] = some d -> d ∈ o) : (b && b') = true ↔ ∀ s ∈ nm.take (k + 1), ∀ d, firstAt l s = some d -> d ∈ o := by
 rw [Bool.and_eq_true, h, hb, List.take_succ_eq_append_getElem hk]
 constructor
 ·rintro ⟨h1, h2⟩ s hs d hd
  rcases List.mem_append.1 hs with h3 | h3
  ·exact h1 s h3 d hd
  simp only [List.mem_singleton] at h3; subst h3; exact h2 d hd
 intro h1
 exact ⟨fun s hs => h1 s (List.mem_append_left _ hs), h1 nm[k] (List.mem_append_right _ (by simp))⟩
theorem rOrder_calls (l : List Cla) (a : OA) (n c : Nat) (w : World) (hl : IsClas w l a n c) (hn : n <= 1000) (hsz : ∀ x ∈ l, x.cond.size <= 100000) :
  Calls Tryz.prog 60 #[.slice a n c] w (ROrdQ (l.map Cla.dfn) w) := by
 have HL := hI hl
 have HN := hI hl.len
 have HSZ := hI hsz
 obtain ⟨dl, hdl⟩ : ∃ dl, dl = l.map Cla.dfn := ⟨_, rfl⟩
 have HDL := hI hdl
 have HDN := hI (show n = dl.length by rw [hdl]; simpa using hl.len)
 rw [<- hdl]
 clear hl hsz hdl
 obtain ⟨i0, hi0, hz0, hz1, hz2⟩ := info_parts elemBools.info
 have hcn : countOf dl <= 1000 := by
  have h1 := HDN.out
  have h2 : countOf dl <= dl.length := by
   unfold countOf
   have := List.length_filter_le (isDef dl) (List.range dl.length)
   simpa using this
  omega
 go_enter Tryz.func60, Tryz.ntmps60
 go_wp2_with (at_make; refine wpList_make_full _ rfl _ _ 122 rfl w.heap.size 4 i0 (.bool false) 1 elemBools.ht hi0 hz0 hz1 _ _ _ _ n rfl rfl rfl rfl ?c1 ?c2 ?c3 ?_)
 case c1 => rw [hz2]; omega
 case c2 => unfold maxLen; omega
 case c3 => omega
 intro wb hown3 hgrow3
 obtain ⟨bs, hbs⟩ : ∃ bs, bs = w.heap.size := ⟨_, rfl⟩
 rw [<- hbs] at hown3 ⊢
 have HS3 := hI (SeenAt.of_owns hown3)
 have HX3 := hI (show Ext w wb from ⟨hgrow3.os, hgrow3.tape, hgrow3.output, hgrow3.size, fun k hk => hgrow3.block k hk (by simp)⟩)
 have HBS := hI hbs
 have hbl := HS3.out.lt
 clear hown3 hgrow3 hbs
 go_wp2_with fail
 go_loopg [4] (countOf dl) (RO1 w wb dl bs n)
 case atStart => exact ⟨[], rfl, RInv.start dl, World.ownsRow_nil _ _ _ _, by rw [marks_nil]; exact HS3.out, HX3.out, Nat.le_refl _⟩
 case round =>
  obtain ⟨o, hm, hinv, hown, hseen, hx, hwbz⟩ := hrel
  obtain ⟨wo, rfl⟩ : ∃ wo : World, wo = wr := ⟨_, rfl⟩
  have HM := hI hm
  have HI := hI hinv
  have HO := hI hown
  have HSE := hI hseen
  have HX := hI hx
  obtain ⟨oa, oc, hov⟩ := owns_formR hown
  subst hov
  have hol := hinv.le
  clear hm hinv hown hseen hx HS3 HX3
  go_wp2_with fail
  go_loopw [6, 7, 8] (RO2 wo dl o n) (fun _ _ i _ => n - (intOf i).toNat)
  case atStart => exact ⟨0, rfl, by omega, Ext.refl _, Or.inl ⟨rfl, ⟨false, rfl, by simp⟩, fun j h => by omega⟩⟩
  case round =>
   obtain ⟨k, rfl, hk, hxk, hcase⟩ := hrel
   obtain ⟨wk, rfl⟩ : ∃ wk : World, wk = wr := ⟨_, rfl⟩
   have HXK := hI hxk
   clear hxk
   rcases hcase with ⟨rfl, ⟨b, rfl, hb⟩, hno⟩ | ⟨p, b, rfl, rfl, hpn, hpd, hpo, hpm⟩
   ·have HB := hI hb
    have HNO := hI hno
    clear hb hno
    by_cases hkn : k < n
    ·have hkl : k < l.length := by have := HN.out; omega
     have t1 : decide ((k : Int) < (n : Int)) = true := decide_eq_true (by omega)
     obtain ⟨cb, coff, v, rfl, hcla, hrow⟩ := (HL.out.ext (HX.out.trans HXK.out)).at hkl
     obtain ⟨c0, c1, c2, c3, c4, c5, c6, c7, c8, c9⟩ := hrow.ten
     have HEX := hI hcla.2.2.1
     have hkk := hcla.1
     have HID := hI (show isDef dl k = (l[k].kind == 1) by rw [HDL.out]; exact isDef_dfn hkl)
     have HUS := hI (show usesAt dl k = refNames (namesE l[k].cond) by rw [HDL.out]; exact usesAt_dfn hkl)
     rw [hkk] at c0
     have hLk : k < (marks o n).length := by rw [marks_len]; exact hkn
     have hcs := (HSE.out.ext HXK.out).cell hLk
     rw [marks_at hkn] at hcs
     have ti0 : (0 : Int) <= (k : Int) := by omega
     have ti1 : (k : Int) < (n : Int) := by omega
     clear hcla hrow hkk c1 c8 c9
     by_cases hgo : isDef dl k = true /\ k ∉ o
     ·obtain ⟨hgd, hgo⟩ := hgo
      have tk : (l[k].kind != 1) = false := by rw [HID.out] at hgd; simp [bne, hgd]
      have tdone : decide (k ∈ o) = false := decide_eq_false hgo
      rw [tdone] at hcs
      clear tdone
      have HGO := hI hgo
      have HGD := hI hgd
      clear hgo hgd
      go_wp2_with fail
      obtain ⟨nm, hnm⟩ : ∃ nm, nm = refNames (namesE l[k].cond) := ⟨_, rfl⟩
      have hszk := HSZ.out _ (List.getElem_mem hkl)
      refine (rnames_calls l[k].cond _ _ (by omega) HEX.out).mono ?_
      rw [<- hnm]
      rw [<- hnm] at HUS
      rintro r w5 ⟨na, nc, rfl, hst, hx5⟩
      have HST := hI hst
      have HX5 := hI (HXK.out.trans hx5)
      have hnml : nm.length <= 100000 := by
       rw [hnm]
       have h1 : (refNames (namesE l[k].cond)).length <= (namesE l[k].cond).length := by have := fold_len (namesE l[k].cond) []; simpa [refNames] using this
       exact Nat.le_trans h1 (Nat.le_trans (namesE_len _) hszk)
      clear hst hx5 hnm c0 c2 c3 c4 c5 c6 c7 hcs HEX
      go_wp2_with fail
      go_loopw [9, 11] (RO3 w5 dl o nm) (fun _ i _ => nm.length - (intOf i).toNat)
      case atStart => exact ⟨0, true, rfl, by omega, rfl, by simp, Ext.refl _⟩
      case round =>
       obtain ⟨q, rd, rfl, hq, rfl, hrd, hxq⟩ := hrel
       have HRD := hI hrd
       have HXQ := hI hxq
       clear hrd hxq
       by_cases hqn : q < nm.length
       ·have t2 : decide ((q : Int) < (nm.length : Int)) = true := decide_eq_true (by omega)
        obtain ⟨nb, noff, rfl, cn⟩ := (HST.out.ext HXQ.out).2.2.2 q hqn
        have hXall := HX.out.trans (HX5.out.trans HXQ.out)
        have HDC := hI (rDef_calls l _ n c nm[q] wr (HL.out.ext hXall) (by omega))
        have HFA := hI (show firstAt dl nm[q] = defAt l nm[q] by rw [HDL.out]; exact firstAt_dfn l _)
        cases hda : defAt l nm[q] with
        | none =>
         rw [hda, optV_none] at HDC
         have HN3 := hI (ro3_step hqn HRD.out (b' := true) (by rw [HFA.out, hda]; simp))
         clear hda hXall
         cases rd
         all_goals
          go_wp2_with fail
          refine HDC.out.mono ?_
          rintro r w6 ⟨rfl, rfl⟩
          go_wp2_with fail
          go_roundw
          case rel => exact ⟨q + 1, _, by go_num, by omega, rfl, HN3.out, HXQ.out⟩
          case measure => simp [intOf]; omega
        | some d =>
         rw [hda, optV_some] at HDC
         have hdl' : d < l.length := by
          have := hda
          unfold defAt at this
          rw [List.findIdx?_eq_some_iff_getElem] at this
          exact this.1
         have hdn : d < n := by have := HN.out; omega
         have HN3 := hI (ro3_step hqn HRD.out (b' := decide (d ∈ o)) (by rw [HFA.out, hda]; simp))
         have hLd : d < (marks o n).length := by rw [marks_len]; exact hdn
         have hcd := (HSE.out.ext (HX5.out.trans HXQ.out)).cell hLd
         rw [marks_at hdn] at hcd
         have td0 : (0 : Int) <= (d : Int) := by omega
         have td1 : (d : Int) < (n : Int) := by omega
         clear hda hXall
         cases rd
         all_goals
          go_wp2_with fail
          refine HDC.out.mono ?_
          rintro r w6 ⟨rfl, rfl⟩
          go_wp2_with fail
          go_roundw
          case rel => exact ⟨q + 1, _, by go_num, by omega, rfl, HN3.out, HXQ.out⟩
          case measure => simp [intOf]; omega
       have t2 : decide ((q : Int) < (nm.length : Int)) = false := decide_eq_false (by omega)
       have HMI := hI (show rd = true ↔ missL dl o k = [] by
        rw [HRD.out, List.take_of_length_le (by omega), miss_nil, HUS.out])
       cases rd
       ·go_wp2_with fail
        go_roundw
        case rel =>
         refine ⟨k + 1, by go_num, by omega, HX5.out.trans HXQ.out, Or.inl ⟨rfl, ⟨true, rfl, ?_⟩, fun j hj hd ho => ?_⟩⟩
         ·exact ⟨fun _ => ⟨k, by omega, HGD.out, HGO.out⟩, fun _ => rfl⟩
         by_cases e : j = k
         ·subst e; intro h; have := HMI.out.2 h; cases this
         exact HNO.out j (by omega) hd ho
        case measure => simp [intOf]; omega
       go_wp2_with fail
       go_roundw
       case rel => exact ⟨k + 1, by go_num, by omega, HX5.out.trans HXQ.out, Or.inr ⟨k, true, rfl, rfl, hkn, HGD.out, HGO.out, HMI.out.1 rfl⟩⟩
       case measure => simp [intOf]; omega
     have HSK := hI (show ∃ b' : Bool, Value.bool b = .bool b' /\ (b' = true ↔ ∃ j, j < k + 1 /\ isDef dl j = true /\ j ∉ o) from ⟨b, rfl, by
      rw [HB.out]
      constructor
      ·rintro ⟨j, h1, h2⟩; exact ⟨j, by omega, h2⟩
      rintro ⟨j, h1, h2, h3⟩
      refine ⟨j, ?_, h2, h3⟩
      rcases Nat.lt_or_ge j k with h | h
      ·exact h
      obtain rfl : j = k := by omega
      exact absurd ⟨h2, h3⟩ hgo⟩)
     have HN2 := hI (show ∀ j, j < k + 1 -> isDef dl j = true -> j ∉ o -> missL dl o j ≠ [] from fun j hj hd ho => by
      rcases Nat.lt_or_ge j k with h | h
      ·exact HNO.out j h hd ho
      obtain rfl : j = k := by omega
      exact absurd ⟨hd, ho⟩ hgo)
     by_cases hkd : isDef dl k = true
     ·have tk : (l[k].kind != 1) = false := by rw [HID.out] at hkd; simp [bne, hkd]
      have hin : decide (k ∈ o) = true := decide_eq_true (Classical.byContradiction fun h => hgo ⟨hkd, h⟩)
      rw [hin] at hcs
      clear hin hgo hkd
      go_wp2_with fail
      go_roundw
      case rel => exact ⟨k + 1, by go_num, by omega, HXK.out, Or.inl ⟨rfl, HSK.out, HN2.out⟩⟩
      case measure => simp [intOf]; omega
     have tk : (l[k].kind != 1) = true := by rw [HID.out] at hkd; simp [bne, hkd]
     clear hgo hkd
     go_wp2_with fail
     go_roundw
     case rel => exact ⟨k + 1, by go_num, by omega, HXK.out, Or.inl ⟨rfl, HSK.out, HN2.out⟩⟩
     case measure => simp [intOf]; omega
    have t1 : decide ((k : Int) < (n : Int)) = false := decide_eq_false (by omega)
    have hkd : k = dl.length := by have := HDN.out; omega
    have HXE := hI (HX.out.trans HXK.out)
    cases hbc : b
    ·have HTS := hI (show Sorts dl from ⟨o, HI.out.done fun i hi => Classical.byContradiction fun h => by
      have := HB.out.2 ⟨i, by rw [hkd]; exact isDef_lt hi, hi, h⟩
      rw [hbc] at this; cases this⟩)
     clear hkd
     go_wp2_with fail
     go_ret2
     exact ⟨HXE.out, Or.inl ⟨HTS.out, oa, _, oc, rfl⟩⟩
    obtain ⟨j, hj1, hj2, hj3⟩ := HB.out.1 hbc
    have HTS := hI (show ¬ Sorts dl from RInv.stuck (fun i hi ho => HNO.out i (by rw [hkd]; exact isDef_lt hi) hi ho) hj2 hj3)
    clear hkd
    go_wp2_with fail
    go_ret2
    exact ⟨HXE.out, Or.inr ⟨HTS.out, rfl⟩⟩
   have t2 : decide ((p : Int) < 0) = false := decide_eq_false (by omega)
   have HSN := hI (HI.out.snoc hpd hpo hpm)
   have hlt := HI.out.lt hpd hpo
   have HOK := hI (owns_chg HO.out (HXK.out.chg []) (by simp))
   have HSK := hI (HSE.out.ext HXK.out)
   have hbk := HSK.out.lt
   have hLp : p < (marks o n).length := by rw [marks_len]; exact hpn
   have hzk := HXK.out.size
   have hfs := HSK.out.free p
   have hcp := HSK.out.cell hLp
   have HSS := hI HSK.out
   have tp0 : (0 : Int) <= (p : Int) := by omega
   have tp1 : (p : Int) < (n : Int) := by omega
   clear hpd hpo hpm
   by_cases hkn : k < n
   case' pos => have t1 : decide ((k : Int) < (n : Int)) = true := decide_eq_true (by omega)
   case' neg => have t1 : decide ((k : Int) < (n : Int)) = false := decide_eq_false (by omega)
   all_goals
    go_wp2_with (at_builtin; refine wpList_append_at elemIntsR rfl _ _ rfl wb.heap.size _ o.length _ rfl HOK.out _ 1 1 rfl rfl rfl (by simp [Value.oneCell']) (by unfold maxLen; omega) (by omega) (by omega) ?_)
    intro v8 w8 hown8 hc8 hw8
    obtain ⟨a8, c8, hv8⟩ := owns_formR hown8
    subst hv8
    have hbr : bs ∉ rowOf (.slice oa o.length oc) := fun hm => by have := (HO.out.lt bs (mem_rowOf.1 hm)).1; omega
    have hS8 : SeenAt bs (marks o n) w8 := by
     obtain ⟨cur, g1, g2⟩ := HSS.out.row
     exact ⟨cur, hc8.blk g1 hbr, g2⟩
    have hf8 := hS8.free p
    have hc8' := hS8.cell hLp
    have HS9 := hI (hS8.set p true)
    rw [marks_set] at HS9
    have hbl8 := hS8.lt
    have HO8 := hI (show w8.ownsRow wb.heap.size 3 1 (.slice a8 (o.length + 1) c8) (o ++ [p]).length (natCs (o ++ [p])) by simpa [natCs] using hown8)
    have HX8 := hI (hc8.ext (HX.out.trans HXK.out) (fun q hq => by have h1 := (HO.out.lt q (mem_rowOf.1 hq)).1; have h2 := HBS.out; omega))
    have hz8 := hc8.size
    have hne8 : ∀ q, (Value.slice a8 (o.length + 1) c8).ownBlock = some q -> q ∉ [bs] := fun q hq hm => by
     simp only [List.mem_singleton] at hm
     subst hm
     rcases hw8 q hq with e | e
     ·exact hbr (mem_rowOf.2 e)
     omega
    have HO9 := hI (owns_chg HO8.out ((Chg.refl [bs] w8).setCell (p := ⟨bs, p, none⟩) (Or.inl (by simp)) (.bool true)) hne8)
    clear hown8 hc8 hw8 hS8 hfs hcp hbr hne8
    go_wp2_with fail
    go_roundg (countOf dl - (o.length + 1))
    case rel => exact ⟨o ++ [p], by simp, HSN.out, HO9.out, HS9.out, HX8.out.setAbove (by simp; rw [HBS.out]; exact Nat.le_refl _) _, by simp; omega⟩
    case measure => have := HM.out; omega
theorem refExprB_size {e : Ex} (h : refExprB e = true) : e.size <= 100000 := by
 unfold refExprB refSize at h
 simp only [Bool.and_eq_true, decide_eq_true_eq] at h
 omega
theorem clauseB_cond {c : Cla} (h : clauseB c = true) : refExprB c.cond = true := by
 unfold clauseB at h
 simp only [Bool.and_eq_true] at h
 exact h.1.1.2
theorem claErr_valid {s : List Attr} {l : List Cla} {i : Nat} (h : claErr s l i = 0) (hi : i < l.length) : clauseB l[i] = true := by
 unfold claErr at h
 rw [getD_cla hi] at h
 cases hb : clauseB l[i]
 ·rw [hb] at h; simp at h
 rfl
theorem cls_bad {s : List Attr} {l : List Cla} (h : schemaErr s ≠ 0) : clausesErr s l = (0, schemaErr s) := by unfold clausesErr; rw [if_pos h]
theorem cls_many {s : List Attr} {l : List Cla} (h : schemaErr s = 0) (hn : 100 < l.length) : clausesErr s l = (0, 4) := by unfold clausesErr; rw [if_neg (by simp [h]), if_pos hn]
theorem cls_hit {s : List Attr} {l : List Cla} (h : schemaErr s = 0) (hn : ¬ 100 < l.length) {k : Nat} (hk : k < l.length) (h0 : ∀ j, j < k -> claErr s l j = 0) (h1 : claErr s l k ≠ 0) : clausesErr s l = (k, claErr s l k) := by
 unfold clausesErr
 have := firstI_hit h1 h0 l.length hk
 rw [if_neg (by simp [h]), if_neg hn, this, if_pos h1]
theorem cls_cycle {s : List Attr} {l : List Cla} (h : schemaErr s = 0) (hn : ¬ 100 < l.length) (h0 : ∀ j, j < l.length -> claErr s l j = 0) (hs : ¬ Sorts (l.map Cla.dfn)) : clausesErr s l = (0, 10) := by
 unfold clausesErr
 rw [if_neg (by simp [h]), if_neg hn, firstI_zero _ h0, if_neg (by simp), if_pos hs]
theorem cls_large {s : List Attr} {l : List Cla} (h : schemaErr s = 0) (hn : ¬ 100 < l.length) (h0 : ∀ j, j < l.length -> claErr s l j = 0) (hs : Sorts (l.map Cla.dfn)) {k : Nat} (hk : k < l.length) (g0 : ∀ j, j < k -> claLarge l j = 0) (g1 : claLarge l k = 4) : clausesErr s l = (k, 4) := by
 unfold clausesErr
 rw [if_neg (by simp [h]), if_neg hn, firstI_zero _ h0, if_neg (by simp), if_neg (by simp [hs]), firstI_hit (by rw [g1]; decide) g0 _ hk, g1]
theorem cls_good {s : List Attr} {l : List Cla} (h : schemaErr s = 0) (hn : ¬ 100 < l.length) (h0 : ∀ j, j < l.length -> claErr s l j = 0) (hs : Sorts (l.map Cla.dfn)) (g0 : ∀ j, j < l.length -> claLarge l j = 0) : clausesErr s l = (0, 0) := by
 unfold clausesErr
 rw [if_neg (by simp [h]), if_neg hn, firstI_zero _ h0, if_neg (by simp), if_neg (by simp [hs]), firstI_zero _ g0]
def clsV (r : Nat × Int) : Value := .tuple #[.int .i64 (r.1 : Nat), .int .i64 r.2]
theorem givesE_cls {r : Nat × Int} {i : Nat} {e : Int} {w w' : World} (h : r = (i, e)) (hx : Ext w w') : GivesE (clsV r) w (.returned (.tuple #[.int .i64 (i : Nat), .int .i64 e])) w' := by subst h; exact ⟨rfl, hx⟩
def c14V (b off n c k : Nat) (sa : OA) (sn sc : Nat) (nm : BA) (q : Nat) (ab : Bool) : Nat -> Value -> World -> Prop
 | 0, u, _ => u = .agg #[.slice sa sn sc]
 | 1, u, _ => u = .slice (some ⟨b, off, none⟩) n c
 | 2, u, _ => u = .int .i64 k
 | 3, u, _ => u = .pointer (some ⟨b, off + k * 10, none⟩)
 | 4, u, _ => u = .pointer (some ⟨b, off + k * 10 + 1, none⟩)
 | 5, u, _ => u = .string nm
 | 6, u, _ => u = .tuple #[.int .i64 q, .bool ab]
 | 7, u, _ => u = .tuple #[.int .i64 q, .bool ab]
 | 8, u, _ => u = .int .i64 q
 | 9, u, _ => u = .bool ab
 | 10, u, _ => u = .int .i64 q
 | _, u, _ => u = .bool ab
def Cla.okk (c : Cla) : Prop := c.ok /\ wbN c.unl < 1000000000000000
theorem Cla.okk.fit {c : Cla} (h : c.okk) : c.fit := h.1.fit
theorem wbN_of_cnt : (l : List Wb) -> cntBacks l <= 40 -> wbN l <= cntBacks l
 | [], _ => by simp [wbN]
 | .mk n c u :: r, h => by
  rw [cntBacks] at h ⊢
  have h1 := wbN_of_cnt u (by omega)
  have h2 := wbN_of_cnt r (by omega)
  rw [wbN]; omega
theorem wbOk_of : (d : Nat) -> (l : List Wb) -> backsB d l = true -> wbFits l -> wbOk l
 | _, [], _, _ => by unfold wbOk; trivial
 | d, .mk n c u :: r, h, hf => by
  rw [backsB] at h
  simp only [Bool.and_eq_true] at h
  rw [wbFits] at hf
  have := refExprB_size h.1.1.2
  unfold wbOk
  exact ⟨hf.1, hf.2.1, hf.2.2.1, by omega, wbOk_of _ u h.1.2 hf.2.2.2.2.2.1, wbOk_of d r h.2 hf.2.2.2.2.2.2⟩
theorem Cla.fit.okk {c : Cla} (h : c.fit) (hc : clauseB c = true) : c.okk := by
 have hx := refExprB_size (clauseB_cond hc)
 have key : wbOk c.unl /\ wbN c.unl <= 40 := by
  unfold clauseB at hc
  simp only [Bool.and_eq_true, Bool.or_eq_true, decide_eq_true_eq] at hc
  rcases hc.1.2 with h0 | ⟨⟨_, h1⟩, h2⟩
  ·rw [List.eq_nil_of_length_eq_zero h0]
   exact ⟨by unfold wbOk; trivial, by simp [wbN]⟩
  exact ⟨wbOk_of 16 _ h2 h.2.2.2.2.2, Nat.le_trans (wbN_of_cnt _ h1) h1⟩
 exact ⟨⟨h.1, h.2.1, h.2.2.1, by omega, key.1, by omega⟩, by omega⟩
theorem rClauses_calls (s : List Attr) (l : List Cla) (sv : Value) (a : OA) (n c : Nat) (w : World) (hs : IsSchema w s sv) (hf : ∀ x ∈ s, x.fits) (hsl : s.length <= 1000000000000000) (hl : IsClas w l a n c) (hn : n <= 1000000000000000) (hok : ∀ x ∈ l, x.fit) :
  Calls Tryz.prog 33 #[sv, .slice a n c] w (GivesE (clsV (clausesErr s l)) w) := by
 obtain ⟨sa, sn, sc, rfl, hsn⟩ := hs.slice
 have HS := hI hs
 have HL := hI hl
 have HN := hI hl.len
 have HF := hI hf
 have HOK := hI hok
 obtain ⟨R, hR⟩ : ∃ R, R = clausesErr s l := ⟨_, rfl⟩
 rw [<- hR]
 have HR := hI hR
 clear hs hl hf hok hR hsn
 go_enter Tryz.func33, Tryz.ntmps33
 go_upto_region 1 with fail
 obtain ⟨wa, hwa⟩ : ∃ wa, wa = w.alloc (.cells #[.slice sa sn sc] 31) := ⟨_, rfl⟩
 have hxa : Ext w wa := by rw [hwa]; exact (Ext.refl _).alloc _
 have hb : wa.heap[w.heap.size]? = some (.cells #[.slice sa sn sc] 31 (0, 0)) := by rw [hwa]; exact alloc_new w _
 have HXA := hI hxa
 have HBA := hI hb
 obtain ⟨d0, df⟩ := blk1 hb
 rw [<- hwa]
 clear hxa hb hwa
 go_wp2_with fail
 refine (rSchema_calls s _ wa (HS.out.ext HXA.out) HF.out hsl).mono ?_
 rintro r w1 ⟨rfl, hx1⟩
 have HX1 := hI (HXA.out.trans hx1)
 have HB1 := hI (hx1.blk HBA.out)
 clear hx1 d0 df
 by_cases hse : schemaErr s = 0
 case neg =>
  have tz : (schemaErr s != 0) = true := by simp [hse]
  have HQ := hI (HR.out.trans (cls_bad hse))
  go_wp2_with fail
  go_ret2
  exact givesE_cls HQ.out HX1.out
 have tz : (schemaErr s != 0) = false := by simp [hse]
 have HSE := hI hse
 clear hse
 by_cases hm : 100 < n
 ·have tm : decide ((100 : Int) < (n : Int)) = true := decide_eq_true (by omega)
  have HQ := hI (HR.out.trans (cls_many HSE.out (by have := HN.out; omega)))
  go_wp2_with fail
  go_ret2
  exact givesE_cls HQ.out HX1.out
 have tm : decide ((100 : Int) < (n : Int)) = false := decide_eq_false (by omega)
 have HM := hI (show ¬ 100 < l.length by have := HN.out; omega)
 go_wp2_with fail
 go_loopw [7] (fun t wr => ∃ k : Nat, t = .int .i64 k /\ k <= n /\ (∀ j, j < k -> claErr s l j = 0) /\ wr.heap[w.heap.size]? = some (.cells #[.slice sa sn sc] 31 (0, 0)) /\ Ext w wr) (fun t _ => n - (intOf t).toNat)
 case atStart => exact ⟨0, rfl, by omega, fun j h => by omega, HB1.out, HX1.out⟩
 case round =>
  obtain ⟨k, rfl, hk, hno, hbx, hxr⟩ := hrel
  have HNO := hI hno
  have HBX := hI hbx
  have HXR := hI hxr
  obtain ⟨d0, df⟩ := blk1 hbx
  clear hno hbx hxr HB1 HX1
  by_cases hkn : k < n
  ·have hkl : k < l.length := by have := HN.out; omega
   have t1 : decide ((k : Int) < (n : Int)) = true := decide_eq_true (by omega)
   obtain ⟨b, off, v, rfl, hcla, hrow⟩ := (HL.out.ext HXR.out).at hkl
   obtain ⟨c0, c1, c2, c3, c4, c5, c6, c7, c8, c9⟩ := hrow.ten
   have HCLA := hI hcla
   have HROW := hI hrow
   have HOKF := hI (HOK.out _ (List.getElem_mem hkl))
   have ti0 : (0 : Int) <= (k : Int) := by omega
   have ti1 : (k : Int) < (n : Int) := by omega
   have HCE := hI (show claErr s l k = if clauseB l[k] = false then 5 else if (findAt l l[k].name).getD 0 < k then 8 else if (attrAt s l[k].name).isSome then 8 else if nodesErr s l l[k].cond ≠ 0 then nodesErr s l l[k].cond else backsErr s l l[k].unl by unfold claErr; rw [getD_cla hkl])
   have HHIT := hI (fun (e : Int) (h : claErr s l k = e) (h0 : e ≠ 0) => HR.out.trans (by rw [cls_hit HSE.out HM.out hkl HNO.out (by rw [h]; exact h0), h]))
   have HNAM := hI hcla.2.1
   clear hcla hrow
   go_upto_region 9 with fail
   go_wp2_with fail
   refine (rclause_fit l[k] v wr HCLA.out HOKF.out).mono ?_
   rintro r w3 ⟨rfl, hx3⟩
   have HX3 := hI (HXR.out.trans hx3)
   have HB3 := hI (hx3.blk HBX.out)
   have HC3 := hI (HCLA.out.mono hx3.sub)
   have HR3 := hI (HROW.out.mono hx3.sub)
   clear hx3 d0 df c0 c1 c2 c3 c4 c5 c6 c7 c8 c9 HBX HCLA HROW
   obtain ⟨d0, df⟩ := blk1 HB3.out
   obtain ⟨c0, c1, c2, c3, c4, c5, c6, c7, c8, c9⟩ := HR3.out.ten
   cases hcb : clauseB l[k]
   ·have HQ := hI (HHIT.out 5 (by rw [HCE.out, hcb]; rfl) (by decide))
    clear hcb
    go_wp2_with fail
    go_ret2
    exact givesE_cls HQ.out HX3.out
   have HOKK := hI (HOKF.out.okk hcb)
   rw [hcb] at HCE
   simp only [Bool.true_eq_false, if_false] at HCE
   clear hcb
   go_wp2_with fail
   rw [HNAM.out]
   refine (rFind_calls l _ n c l[k].name w3 (HL.out.ext HX3.out) hn).mono ?_
   rintro r w4 ⟨rfl, rfl⟩
   unfold optV
   obtain ⟨F, hF⟩ : ∃ F, F = (findAt l l[k].name).getD 0 := ⟨_, rfl⟩
   rw [<- hF] at HCE ⊢
   have hFl : F <= l.length := by
    rw [hF]
    cases hfa : findAt l l[k].name with
    | none => simp
    | some q =>
     unfold findAt at hfa
     rw [List.findIdx?_eq_some_iff_getElem] at hfa
     obtain ⟨h1, _⟩ := hfa
     simp only [Option.getD_some]; omega
   generalize (findAt l l[k].name).isSome = fb
   clear hF
   by_cases hfk : F < k
   ·have tf : decide (F < k) = true := decide_eq_true hfk
    have HQ := hI (HHIT.out 8 (by rw [HCE.out, if_pos hfk]) (by decide))
    go_wp2_with fail
    go_ret2
    exact givesE_cls HQ.out HX3.out
   have tf : decide (F < k) = false := decide_eq_false hfk
   rw [if_neg hfk] at HCE
   clear hFl
   go_wp2_with fail
   have HIX := hI (fun (W : World) (hW : Ext w3 W) => rIndex_calls s _ l[k].name W (HS.out.ext (HX3.out.trans hW)) hsl)
   obtain ⟨q, hq⟩ : ∃ q, q = (attrAt s l[k].name).getD 0 := ⟨_, rfl⟩
   obtain ⟨ab, hab⟩ : ∃ ab, ab = (attrAt s l[k].name).isSome := ⟨_, rfl⟩
   have HIV := hI (show optV (attrAt s l[k].name) = .tuple #[.int .i64 (q : Nat), .bool ab] by rw [hq, hab]; rfl)
   rw [<- hab] at HCE
   rw [HNAM.out] at c1
   obtain ⟨nm, hnm⟩ : ∃ nm, nm = l[k].name := ⟨_, rfl⟩
   rw [<- hnm] at c1 HIX HIV
   clear hq hab hnm
   go_upto_region 14 with fail
   refine wp_region_grow (m := 12) [11] (GrG w3) GrE (GrP (c14V b off n c k sa sn sc nm q ab)) (by kernel_rfl) (by kernel_rfl) ((Ext.refl w3).drew) ?_ ?_ ?_
   ·intro i k v W W' hi hk hne hout h hE
    have hE : Ext W W' := hE
    have hi' := ltc12 hi
    clear hi hk hne hout
    rcases hi' with rfl | rfl | rfl | rfl | rfl | rfl | rfl | rfl | rfl | rfl | rfl | rfl
    ·exact h
    ·exact h
    ·exact h
    ·exact h
    ·exact h
    ·exact h
    ·exact h
    ·exact h
    ·exact h
    ·exact h
    ·exact h
    exact h
   ·intro q op hq ho vs W hW hd ρ hρ
    have hq' := ltc12 hq
    clear hq
    have o2 : ρ (.tmp 2) = .pointer (some ⟨w.heap.size, 0, none⟩) := hρ.out 2 rfl
    have o1 : ρ (.tmp 1) = .slice (some ⟨b, off, none⟩) n c := hρ.out 1 rfl
    have o7 : ρ (.tmp 7) = .int .i64 k := hρ.out 7 rfl
    have i1 := hρ.i 1 54
    have i2 := hρ.i 2 55
    have i3 := hρ.i 3 56
    have i4 := hρ.i 4 57
    have i0 := hρ.i 0 53
    have i5 := hρ.i 5 58
    have i6 := hρ.i 6 59
    have i7 := hρ.i 7 52
    have i8 := hρ.i 8 60
    have i9 := hρ.i 9 61
    have hc := hρ.const
    have hfn := hρ.func
    clear hρ
    have HW := hI (show Ext w3 W from hW)
    rcases hq' with rfl | rfl | rfl | rfl | rfl | rfl | rfl | rfl | rfl | rfl | rfl | rfl
    ·cases ho
     clear hd
     have g0 := HW.out.cell d0
     unfold GivesOp
     go_simp
     exact ⟨Ext.refl W, rfl⟩
    ·cases ho
     clear hd
     unfold GivesOp
     go_simp
     exact ⟨Ext.refl W, rfl⟩
    ·cases ho
     clear hd
     unfold GivesOp
     go_simp
     exact ⟨Ext.refl W, rfl⟩
    ·cases ho
     have h1 : vs 1 = _ := hd ⟨1, .data⟩ (by simp) rfl
     rw [h1] at i1
     have h2 : vs 2 = _ := hd ⟨2, .data⟩ (by simp) rfl
     rw [h2] at i2
     clear hd
     unfold GivesOp
     go_simp
     exact ⟨Ext.refl W, rfl⟩
    ·cases ho
     have h3 : vs 3 = _ := hd ⟨3, .data⟩ (by simp) rfl
     rw [h3] at i3
     clear hd
     unfold GivesOp
     go_simp
     exact ⟨Ext.refl W, rfl⟩
    ·cases ho
     have h4 : vs 4 = _ := hd ⟨4, .data⟩ (by simp) rfl
     rw [h4] at i4
     clear hd
     have g1 := HW.out.cell c1
     unfold GivesOp
     go_simp
     exact ⟨Ext.refl W, rfl⟩
    ·cases ho
     have h0 : vs 0 = _ := hd ⟨0, .data⟩ (by simp) rfl
     rw [h0] at i0
     have h5 : vs 5 = _ := hd ⟨5, .data⟩ (by simp) rfl
     rw [h5] at i5
     clear hd
     unfold GivesOp
     go_simp
     refine (HIX.out W HW.out).mono ?_
     rw [HIV.out]
     rintro r w5 ⟨rfl, hx5⟩
     exact ⟨_, rfl, hx5, HW.out.trans hx5, rfl⟩
    ·cases ho
     have h6 : vs 6 = _ := hd ⟨6, .data⟩ (by simp) rfl
     rw [h6] at i6
     clear hd
     unfold GivesOp
     go_simp
     exact ⟨Ext.refl W, rfl⟩
    ·cases ho
     have h7 : vs 7 = _ := hd ⟨7, .data⟩ (by simp) rfl
     rw [h7] at i7
     clear hd
     unfold GivesOp
     go_simp
     exact ⟨Ext.refl W, rfl⟩
    ·cases ho
     have h7 : vs 7 = _ := hd ⟨7, .data⟩ (by simp) rfl
     rw [h7] at i7
     clear hd
     unfold GivesOp
     go_simp
     exact ⟨Ext.refl W, rfl⟩
    ·cases ho
     have h8 : vs 8 = _ := hd ⟨8, .data⟩ (by simp) rfl
     rw [h8] at i8
     clear hd
     unfold GivesOp
     go_simp
     exact ⟨Ext.refl W, rfl⟩
    cases ho
    have h9 : vs 9 = _ := hd ⟨9, .data⟩ (by simp) rfl
    rw [h9] at i9
    clear hd
    unfold GivesOp
    go_simp
    exact ⟨Ext.refl W, rfl⟩
   intro vs W hW hR
   rw [if_pos (by decide +kernel)]
   have h11 : vs 11 = .bool ab := hR 11 (by simp) (by omega)
   simp only [acts, dstAt, List.range, List.range.loop, List.foldl_cons, List.foldl_nil, h11]
   go_simp
   have hW2 : Ext w3 W := hW
   clear hR hW h11
   have hx6 := hW2
   clear hW2
   have HX6 := hI (HX3.out.trans hx6)
   have HB6 := hI (hx6.blk HB3.out)
   have HR6 := hI (HR3.out.mono hx6.sub)
   have HC6 := hI (HC3.out.mono hx6.sub)
   obtain ⟨w6, hw6⟩ : ∃ w6, w6 = W := ⟨_, rfl⟩
   rw [<- hw6] at HX6 HB6 HR6 HC6 ⊢
   clear hw6 hx6 HB3 HR3 HC3 d0 df c0 c1 c2 c3 c4 c5 c6 c7 c8 c9
   obtain ⟨d0, df⟩ := blk1 HB6.out
   obtain ⟨c0, c1, c2, c3, c4, c5, c6, c7, c8, c9⟩ := HR6.out.ten
   cases hat : ab
   case true =>
    have HQ := hI (HHIT.out 8 (by rw [HCE.out, hat]; rfl) (by decide))
    clear hat
    go_wp2_with fail
    go_ret2
    exact givesE_cls HQ.out HX6.out
   rw [hat] at HCE
   simp only [Bool.false_eq_true, if_false] at HCE
   clear hat
   go_wp2_with fail
   go_still_tail 7, (by kernel_rfl)
   change wpList _ _ _ _ _ w6.drew
   have hx7 : Ext w6 w6.drew := (Ext.refl w6).drew
   generalize w6.drew = w7 at hx7 ⊢
   have HX7 := hI (HX6.out.trans hx7)
   have HB7 := hI (hx7.blk HB6.out)
   have HR7 := hI (HR6.out.mono hx7.sub)
   have HC7 := hI (HC6.out.mono hx7.sub)
   clear hx7 d0 df c0 c1 c2 c3 c4 c5 c6 c7 c8 c9 HB6 HR6 HC6
   go_wp2_with fail
   refine (rnodesErr_calls s l HF.out hsl _ n c hn 1000000000000000 l[k].cond _ _ w7 HOKK.out.1.2.2.2.1 (by omega) HOKK.out.1.2.2.1 (HS.out.ext HX7.out) (HL.out.ext HX7.out) HC7.out.2.2.1).mono ?_
   rintro r w8 ⟨rfl, hx8⟩
   have HX8 := hI (HX7.out.trans hx8)
   have HB8 := hI (hx8.blk HB7.out)
   have HR8 := hI (HR7.out.mono hx8.sub)
   have HC8 := hI (HC7.out.mono hx8.sub)
   clear hx8 HB7 HR7 HC7
   obtain ⟨d0, df⟩ := blk1 HB8.out
   obtain ⟨c0, c1, c2, c3, c4, c5, c6, c7, c8, c9⟩ := HR8.out.ten
   obtain ⟨E1, hE1⟩ : ∃ E1, E1 = nodesErr s l l[k].cond := ⟨_, rfl⟩
   rw [<- hE1] at HCE ⊢
   clear hE1
   by_cases hz : E1 = 0
   case neg =>
    have ty : (E1 != 0) = true := by simp [hz]
    have HQ := hI (HHIT.out E1 (by rw [HCE.out, if_pos hz]) hz)
    clear hz
    go_wp2_with fail
    go_ret2
    exact givesE_cls HQ.out HX8.out
   subst hz
   simp only [ne_eq, not_true_eq_false, if_false] at HCE
   have ty : ((0 : Int) != 0) = false := rfl
   go_wp2_with fail
   go_still_tail 7, (by kernel_rfl)
   change wpList _ _ _ _ _ w8.drew
   have hx9 : Ext w8 w8.drew := (Ext.refl w8).drew
   generalize w8.drew = w9 at hx9 ⊢
   have HX9 := hI (HX8.out.trans hx9)
   have HB9 := hI (hx9.blk HB8.out)
   have HR9 := hI (HR8.out.mono hx9.sub)
   have HC9 := hI (HC8.out.mono hx9.sub)
   clear hx9 d0 df c0 c1 c2 c3 c4 c5 c6 c7 c8 c9 HB8 HR8 HC8
   go_wp2_with fail
   refine (rbackErr_calls s l HF.out hsl _ n c hn 1000000000000000 l[k].unl _ _ _ _ w9 HOKK.out.2 (by omega) HOKK.out.1.2.2.2.2.1 (HS.out.ext HX9.out) (HL.out.ext HX9.out) HC9.out.2.2.2.2.2.2.1 HC9.out.2.2.2.1).mono ?_
   rintro r wA ⟨rfl, hxA⟩
   have HXA2 := hI (HX9.out.trans hxA)
   have HBA2 := hI (hxA.blk HB9.out)
   clear hxA HB9 HR9 HC9
   obtain ⟨E2, hE2⟩ : ∃ E2, E2 = backsErr s l l[k].unl := ⟨_, rfl⟩
   rw [<- hE2] at HCE ⊢
   clear hE2
   by_cases hz2 : E2 = 0
   case neg =>
    have tz2 : (E2 != 0) = true := by simp [hz2]
    have HQ := hI (HHIT.out E2 HCE.out hz2)
    clear hz2
    go_wp2_with fail
    go_ret2
    exact givesE_cls HQ.out HXA2.out
   subst hz2
   go_wp2_with fail
   go_roundw
   case rel =>
    refine ⟨k + 1, by go_num, by omega, fun j hj => ?_, HBA2.out, HXA2.out⟩
    by_cases e' : j = k
    ·subst e'; exact HCE.out
    exact HNO.out j (by omega)
   case measure => simp [intOf]; omega
  have t1 : decide ((k : Int) < (n : Int)) = false := decide_eq_false (by omega)
  have HNA := hI (show ∀ j, j < l.length -> claErr s l j = 0 from fun j hj => HNO.out j (by have := HN.out; omega))
  have HSZ := hI (show ∀ x ∈ l, x.cond.size <= 100000 by
   intro x hx
   obtain ⟨j, hj, rfl⟩ := List.mem_iff_getElem.1 hx
   exact refExprB_size (clauseB_cond (claErr_valid (HNA.out j hj) hj)))
  clear HNO HBX d0 df
  go_wp2_with fail
  refine (rOrder_calls l a n c wr (HL.out.ext HXR.out) (by omega) HSZ.out).mono ?_
  rintro r w3 ⟨hx3, ⟨hso, oa, on, oc, rfl⟩ | ⟨hso, rfl⟩⟩
  ·have HX3 := hI (HXR.out.trans hx3)
   have HSO := hI hso
   clear hx3 hso
   go_wp2_with fail
   go_loopw [16] (fun t wr => ∃ k : Nat, t = .int .i64 k /\ k <= n /\ (∀ j, j < k -> claLarge l j = 0) /\ Ext w wr) (fun t _ => n - (intOf t).toNat)
   case atStart => exact ⟨0, rfl, by omega, fun j h => by omega, HX3.out⟩
   case round =>
    obtain ⟨k2, rfl, hk2, hno, hxr⟩ := hrel
    have HNO := hI hno
    have HXR2 := hI hxr
    clear hno hxr HX3 HXR
    by_cases hkn2 : k2 < n
    ·have hkl : k2 < l.length := by have := HN.out; omega
     have t2 : decide ((k2 : Int) < (n : Int)) = true := decide_eq_true (by omega)
     obtain ⟨b, off, v, rfl, hcla, hrow⟩ := (HL.out.ext HXR2.out).at hkl
     obtain ⟨c0, c1, c2, c3, c4, c5, c6, c7, c8, c9⟩ := hrow.ten
     have HCLA := hI hcla
     have HOKK := hI ((HOK.out _ (List.getElem_mem hkl)).okk (claErr_valid (HNA.out k2 hkl) hkl))
     have ti0 : (0 : Int) <= (k2 : Int) := by omega
     have ti1 : (k2 : Int) < (n : Int) := by omega
     have HLG := hI (show claLarge l k2 = if 2000 < expanded l l[k2].cond \/ backsLarge l l[k2].unl = true then 4 else 0 by unfold claLarge; rw [getD_cla hkl])
     have HHIT := hI (fun (h : claLarge l k2 = 4) => HR.out.trans (cls_large HSE.out HM.out HNA.out HSO.out hkl HNO.out h))
     obtain ⟨E, hE⟩ : ∃ E, E = expanded l l[k2].cond := ⟨_, rfl⟩
     have HEE := hI hE
     rw [<- hE] at HLG
     clear hcla hrow hE
     go_wp2_with fail
     refine (rExpanded_calls l _ n c (by omega) (fun x hx => by have := HSZ.out x hx; omega) l[k2].cond _ wr HOKK.out.1.2.2.2.1 (HL.out.ext HXR2.out) HCLA.out.2.2.1).mono ?_
     rw [<- HEE.out]
     rintro r w5 ⟨rfl, hx5⟩
     have HX5 := hI (HXR2.out.trans hx5)
     have c85 := hx5.cell c8
     have HC5 := hI (HCLA.out.mono hx5.sub)
     clear hx5 c0 c1 c2 c3 c4 c5 c6 c7 c8 c9
     by_cases hz : 2000 < E
     ·have tz : decide ((2000 : Int) < (E : Int)) = true := decide_eq_true (by omega)
      have HQ := hI (HHIT.out (by rw [HLG.out, if_pos (Or.inl hz)]))
      go_wp2_with fail
      go_ret2
      exact givesE_cls HQ.out HX5.out
     have tz : decide ((2000 : Int) < (E : Int)) = false := decide_eq_false (by omega)
     have HL2 := hI (show claLarge l k2 = if backsLarge l l[k2].unl = true then 4 else 0 by rw [HLG.out]; simp only [hz, false_or])
     go_wp2_with fail
     refine (rbackLarge_calls l _ n c (by omega) (fun x hx => by have := HSZ.out x hx; omega) 1000000000000000 l[k2].unl _ _ _ w5 HOKK.out.2 (by omega) HOKK.out.1.2.2.2.2.1 (HL.out.ext HX5.out) HC5.out.2.2.2.2.2.2.1 HC5.out.2.2.2.1).mono ?_
     rintro r w6 ⟨rfl, hx6⟩
     have HX6 := hI (HX5.out.trans hx6)
     clear hx6 c85
     cases hb : backsLarge l l[k2].unl
     ·have HZ := hI (show claLarge l k2 = 0 by rw [HL2.out, hb]; rfl)
      clear hb
      go_wp2_with fail
      go_roundw
      case rel =>
       refine ⟨k2 + 1, by go_num, by omega, fun j hj => ?_, HX6.out⟩
       by_cases e' : j = k2
       ·subst e'; exact HZ.out
       exact HNO.out j (by omega)
      case measure => simp [intOf]; omega
     have HQ := hI (HHIT.out (by rw [HL2.out, hb]; rfl))
     clear hb
     go_wp2_with fail
     go_ret2
     exact givesE_cls HQ.out HX6.out
    have t2 : decide ((k2 : Int) < (n : Int)) = false := decide_eq_false (by omega)
    have HQ := hI (HR.out.trans (cls_good HSE.out HM.out HNA.out HSO.out fun j hj => HNO.out j (by have := HN.out; omega)))
    go_wp2_with fail
    go_ret2
    exact givesE_cls (i := 0) HQ.out HXR2.out
  have HX3 := hI (HXR.out.trans hx3)
  have HQ := hI (HR.out.trans (cls_cycle HSE.out HM.out HNA.out hso))
  clear hx3 hso
  go_wp2_with fail
  go_ret2
  exact givesE_cls (i := 0) HQ.out HX3.out
end Go.Proofs.YtpkljcgihobaiaaGreatDoor
