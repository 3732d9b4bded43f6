/-
  Texts of the claim, joined: GenC, Ord4, Ord6.
-/
import Derived.Test.YtefjomofjejklaaGreatDoorDt15
namespace Go.Proofs.YtefjomofjejklaaGreatDoor
set_option maxRecDepth 100000
set_option maxHeartbeats 32000000
open Go.RowKit
def clV (v : ClV) : Value := .agg #[.int .i64 v.kind, .string v.name, .int .i64 v.x.op, .string v.x.name, .slice v.x.aw v.x.nw v.x.cw, .int .i64 v.x.lo, .int .i64 v.x.hi, .slice v.x.aa v.x.na v.x.ca, .slice v.au v.nu v.cu, .int .i64 v.amount]
def CGood (c : Cla) : Prop := c.cond.fits /\ c.cond.few /\ c.cond.size <= 1000 /\ bareE c.cond = true /\ wbOk c.unl /\ wbN c.unl <= 1000
def AmtOk (kind am : Int) : Prop := (mostOf kind = 0 /\ am = 0) \/ (0 < mostOf kind /\ 1 <= am /\ am <= mostOf kind)
def ClaQ (attrs : List Attr) (names : ZB) (kind : Int) (name : BA) (w0 : World) (bd : Nat) (M : ZN) (w : World) (e : Ending) (w' : World) : Prop := ∃ (c : Cla) (v : ClV), e = .returned (clV v) /\ c.kind = kind /\ c.name = name /\ MadeE attrs names 3 c.cond /\ ((kind = 3 /\ WbM attrs names c.unl /\ wbN c.unl <= 6) \/ c.unl = []) /\ AmtOk kind c.amount /\ CGood c /\ IsCla (mask w' M) c v /\ DeckAt w0 w' bd /\ Chg [bd] w w'
theorem mask_grow {W W' : World} {K N : ZN} (h : Chg K W W') (hk : ∀ y ∈ K, y ∈ N \/ W.heap.size <= y) : Sub (mask W N) (mask W' N) := mask_sub_mask fun k hlt hn => ⟨hn, h.block k hlt fun hm => by
 rcases hk k hm with h1 | h1
 ·exact hn h1
 omega⟩
def CutG (attrs : List Attr) (names : ZB) (w0 wb : World) (bd bc br : Nat) (M : ZN) (kind : Int) (name : BA) (x : Ex) (xv : ExV) (zr : List Value) (wx : World) : Prop := ∃ (unl : List Wb) (au : OA) (nu cu : Nat), wx.heap[bc]? = some (.cells #[.int .i64 kind, .string name, .int .i64 xv.op, .string xv.name, .slice xv.aw xv.nw xv.cw, .int .i64 xv.lo, .int .i64 xv.hi, .slice xv.aa xv.na xv.ca, .slice au nu cu, .int .i64 0] 48 (0, 0)) /\
 wx.heap[br]? = some (.cells zr.toArray 48 (0, 0)) /\ nu = unl.length /\ nu <= cu /\ OkAddr au cu /\ WbsD (mask wx (bd :: bc :: br :: M)) unl au /\ IsEx (mask wx (bd :: bc :: br :: M)) x xv.val /\ WbM attrs names unl /\ wbN unl <= 6 /\ DeckAt w0 wx bd /\ Chg [bd, bc] wb wx /\ (kind = 3 \/ unl = [])
theorem gcl_fin {attrs : List Attr} (hat : attrs ∈ schemas) {names : ZB} (hns : ∀ x ∈ names, x.size <= 1000) {kind : Int} {name : BA} {w0 w w1 wb wx w5 W : World} {bd bc br : Nat} {M : ZN} {x : Ex} {xv : ExV} {ul : List Wb} {ua : OA} {un uc : Nat} {am : Int} (hmo : MadeE attrs names 3 x /\ MadeOk 3 x) (hku : kind = 3 \/ ul = []) (ham : AmtOk kind am) (hcw : Chg [bd] w w1) (hxb : Ext w1 wb) (hle : bd < w.heap.size /\ w.heap.size <= br /\ br < bc) (h0 : w0.heap.size <= w.heap.size)
  (hq : un = ul.length /\ un <= uc /\ OkAddr ua uc) (h4 : WbsD (mask wx (bd :: bc :: br :: M)) ul ua) (h6 : IsEx (mask wx (bd :: bc :: br :: M)) x xv.val) (h7 : WbM attrs names ul /\ wbN ul <= 6) (h9 : Chg [bd, bc] wb wx) (hd5 : DeckAt w0 w5 bd) (hc5 : Chg [bd] wx w5) (hcs : Chg [bc, br] w5 W) :
  ClaQ attrs names kind name w0 bd M w (.returned (clV ⟨kind, name, xv, ua, un, uc, am⟩)) W := by
 have s1 : Sub (mask wx (bd :: bc :: br :: M)) (mask W M) := ((mask_grow hc5 (fun y hy => by simp at hy; simp [hy])).trans (mask_grow hcs (fun y hy => by simp at hy; rcases hy with rfl | rfl <;> simp))).trans (mask_less _ (fun y hy => by simp [hy]))
 refine ⟨⟨kind, name, x, ul, am⟩, _, rfl, rfl, rfl, hmo.1, hku.imp (fun e => ⟨e, h7⟩) id, ham, ⟨hmo.2.fits, hmo.2.few, Nat.le_trans hmo.2.size (by simp [bndS]), hmo.2.bare, WbM.ok hat hns _ h7.1, Nat.le_trans h7.2 (by omega)⟩, ⟨rfl, rfl, h6.mono s1, hq.1, hq.2.1, hq.2.2, WbsD.mono s1 _ _ h4, rfl⟩, ?_, ?_⟩
 ·exact hd5.chg hcs (by simp; omega) (fun y hy => by simp at hy; omega)
 refine (((hcw.then (hxb.chg [bd])).trans h9 ?_).then hc5).trans hcs ?_
 ·intro y hy; simp at hy; rcases hy with rfl | rfl
  ·exact Or.inl (by simp)
  exact Or.inr (by omega)
 intro y hy; simp at hy; exact Or.inr (by omega)
theorem gclause_calls {attrs : List Attr} (hat : attrs ∈ schemas) (names : ZB) (hok : ∀ a ∈ attrs, OkAttr a) (hne : attrs ≠ []) (hl : attrs.length <= 1000) (hnl : names.length <= 1000) (hns : ∀ x ∈ names, x.size <= 1000) {w0 w : World} {bd : Nat} (hd : DeckAt w0 w bd) (sa : OA) (sn sc : Nat) (an : OA) (nn cn : Nat) (M : ZN) (hs : IsSchema (mask w [bd]) attrs (.agg #[.slice sa sn sc])) (hn : IsStrs (mask w [bd]) names an nn cn) (hM : ∀ y ∈ M, y < w.heap.size) (kind : Int) (name : BA) :
  Calls Tryz.prog 19 #[.pointer (some ⟨bd, 0, none⟩), .agg #[.slice sa sn sc], .int .i64 kind, .string name, .slice an nn cn] w (ClaQ attrs names kind name w0 bd M w) := by
 have hbw := hd.lt
 obtain ⟨wa, hwa⟩ : ∃ wa, wa = (w.alloc (.cells #[.slice sa sn sc] 24)).alloc (.cells #[.int .i64 0, .string ⟨#[]⟩, .int .i64 0, .string ⟨#[]⟩, .slice none 0 0, .int .i64 0, .int .i64 0, .slice none 0 0, .slice none 0 0, .int .i64 0] 48) := ⟨_, rfl⟩
 obtain ⟨br, hbr⟩ : ∃ br, br = w.heap.size + 1 := ⟨_, rfl⟩
 obtain ⟨bs, hbs⟩ : ∃ bs, bs = w.heap.size := ⟨_, rfl⟩
 have hxa : Ext w wa := by rw [hwa]; exact ((Ext.refl w).alloc _).alloc _
 have HXA := hI hxa
 have HBR := hI (show wa.heap[br]? = some (.cells #[.int .i64 0, .string ⟨#[]⟩, .int .i64 0, .string ⟨#[]⟩, .slice none 0 0, .int .i64 0, .int .i64 0, .slice none 0 0, .slice none 0 0, .int .i64 0] 48 (0, 0)) by rw [hwa, hbr]; exact alloc_at (by simp))
 have HBS := hI (show wa.heap[bs]? = some (.cells #[.slice sa sn sc] 24 (0, 0)) by rw [hwa, hbs]; exact ((Ext.refl _).alloc _).blk (alloc_new w _))
 have HSZ := hI (show wa.heap.size = w.heap.size + 2 by rw [hwa]; simp)
 have HD := hI (hd.ext hxa)
 have HS := hI hs
 have HN := hI hn
 have HM := hI hM
 have HBB := hI (show bd < bs /\ bs = w.heap.size /\ br = w.heap.size + 1 from ⟨by omega, hbs, hbr⟩)
 have HOKK := hI hok
 have HB0 := hI (show w0.heap.size <= w.heap.size by obtain ⟨_, _, _, _, _, _, _, _, hxw, _⟩ := hd; exact hxw.size)
 go_enter Tryz.func19, Tryz.ntmps19
 go_upto_region 1 with fail
 rw [<- hwa, <- hbr, <- hbs]
 clear hwa hbr hbs hxa hd hs hn hM hok hbw
 obtain ⟨b0, bf⟩ := blk1 HBS.out
 have HDX := hI (show Calls Tryz.prog 40 #[.pointer (some ⟨bd, 0, none⟩), .agg #[.slice sa sn sc], .slice an nn cn, .int .i64 3] wa (MadeQ (fun x => MadeE attrs names 3 x /\ MadeOk 3 x) w0 bd (bd :: br :: M) wa) from
  (dexpr_calls attrs names HOKK.out hne hl hnl 2 (by omega) HD.out sa sn sc an nn cn (bd :: br :: M) (HS.out.mono (mask_step (HXA.out.chg [bd]) (by simp))) (HN.out.mono (mask_step (HXA.out.chg [bd]) (by simp))) (fun y hy => by
   have h1 := HSZ.out; have h2 := HBB.out
   simp only [List.mem_cons] at hy
   rcases hy with rfl | rfl | hy
   ·omega
   ·omega
   have := HM.out y hy; omega)).mono fun e w' h => h.mono fun x hx => ⟨hx, made_okay hat hns 3 x hx⟩)
 go_wp2_with fail
 refine HDX.out.mono ?_
 rintro e w1 ⟨x, xv, rfl, hmo, hix, hd1, hc1⟩
 have HMO := hI hmo
 have HIX := hI hix
 have HD1 := hI hd1
 have HC1 := hI hc1
 clear hmo hix hd1 hc1 b0 bf HDX HD
 unfold ExV.val exV
 go_upto_region 2 with fail
 obtain ⟨bc, hbc⟩ : ∃ bc, bc = w1.heap.size := ⟨_, rfl⟩
 obtain ⟨wb, hwb⟩ : ∃ wb, wb = w1.alloc (.cells #[.int .i64 kind, .string name, .int .i64 xv.op, .string xv.name, .slice xv.aw xv.nw xv.cw, .int .i64 xv.lo, .int .i64 xv.hi, .slice xv.aa xv.na xv.ca, .slice none 0 0, .int .i64 0] 48) := ⟨_, rfl⟩
 have hxb : Ext w1 wb := by rw [hwb]; exact (Ext.refl _).alloc _
 have HXB := hI hxb
 have HBC := hI (show wb.heap[bc]? = some (.cells #[.int .i64 kind, .string name, .int .i64 xv.op, .string xv.name, .slice xv.aw xv.nw xv.cw, .int .i64 xv.lo, .int .i64 xv.hi, .slice xv.aa xv.na xv.ca, .slice none 0 0, .int .i64 0] 48 (0, 0)) by rw [hwb, hbc]; exact alloc_new w1 _)
 have h1s := HC1.out.size
 have HLE := hI (show bd < bs /\ bs < br /\ br < bc /\ bc < wb.heap.size by
  have := HBB.out; have := HSZ.out
  rw [hwb, hbc]
  simp
  omega)
 have HBR2 := hI (hxb.blk (HC1.out.blk HBR.out (by have := HLE.out; simp; omega)))
 have HBS2 := hI (hxb.blk (HC1.out.blk HBS.out (by have := HLE.out; simp; omega)))
 have HIX2 := hI (show IsEx (mask wb (bd :: bc :: br :: M)) x xv.val from HIX.out.mono (by
  rw [hwb]
  refine (mask_sub_mask fun k hk hn => ⟨?_, Below.heap_alloc w1 _ k hk⟩)
  simp only [List.mem_cons, not_or] at hn ⊢
  exact ⟨hn.1, by omega, hn.2.1, hn.2.2⟩))
 rw [<- hwb, <- hbc]
 have HCW := hI ((HXA.out.chg [bd]).then HC1.out)
 have HDB := hI (HD1.out.ext hxb)
 clear hwb hbc hxb h1s HBR HBS HIX HD1
 go_upto_if 21 with fail
 go_cut [] (CutG attrs names w0 wb bd bc br M kind name x xv [.int .i64 0, .string ⟨#[]⟩, .int .i64 0, .string ⟨#[]⟩, .slice none 0 0, .int .i64 0, .int .i64 0, .slice none 0 0, .slice none 0 0, .int .i64 0])
 case first =>
  by_cases h3 : kind = 3
  ·have t3 : (kind == 3) = true := by simp [h3]
   have HK3 := hI h3
   clear h3
   obtain ⟨b0, bf⟩ := blk1 HBS2.out
   have HBK := hI (show Calls Tryz.prog 41 #[.pointer (some ⟨bd, 0, none⟩), .agg #[.slice sa sn sc], .slice an nn cn, .int .i64 2] wb (BacksQ attrs names 2 w0 bd (bd :: bc :: br :: M) wb) from
    backs_calls names HOKK.out hne hl hnl 2 (by omega) HDB.out sa sn sc an nn cn (bd :: bc :: br :: M) (HS.out.mono (mask_step (HCW.out.then (HXB.out.chg [bd])) (by simp))) (HN.out.mono (mask_step (HCW.out.then (HXB.out.chg [bd])) (by simp))) (fun y hy => by
     have h1 := HSZ.out; have h2 := HBB.out; have h3 := HLE.out
     simp only [List.mem_cons] at hy
     rcases hy with rfl | rfl | rfl | hy
     ·omega
     ·omega
     ·omega
     have := HM.out y hy; omega))
   go_wp2_with fail
   refine HBK.out.mono ?_
   rintro e w2 ⟨ul, ua, un, uc, rfl, q1, q2, q3, q4, q5, q6, hd2, hc2⟩
   have hb2 := hc2.blk HBC.out (by have := HLE.out; simp; omega)
   obtain ⟨c0, c1, c2, c3, c4, c5, c6, c7, c8, c9, cf⟩ := blk10r hb2
   have HB2 := hI hb2
   have HR2 := hI (hc2.blk HBR2.out (by have := HLE.out; simp; omega))
   have HQ := hI (show un = ul.length /\ un <= uc /\ OkAddr ua uc /\ WbsD (mask w2 (bd :: bc :: br :: M)) ul ua /\ WbM attrs names ul /\ wbN ul <= 6 from ⟨q1, q2, q3, q4, q5, q6⟩)
   have HD2 := hI hd2
   have HC2 := hI hc2
   clear q1 q2 q3 q4 q5 q6 hd2 hc2 hb2 b0 bf HBK
   go_wp2_with fail
   go_meet
   case rel =>
    have hcs : Chg [bd, bc] w2 (w2.setCell ⟨bc, 8, none⟩ (.slice ua un uc)) := (Chg.refl _ _).setCell (Or.inl (by simp)) _
    have hcs2 : Chg [bc] w2 (w2.setCell ⟨bc, 8, none⟩ (.slice ua un uc)) := (Chg.refl _ _).setCell (Or.inl (by simp)) _
    obtain ⟨q1, q2, q3, q4, q5, q6⟩ := HQ.out
    refine ⟨ul, ua, un, uc, ?_, ?_, q1, q2, q3, ?_, ?_, q5, q6, ?_, ?_, Or.inl HK3.out⟩
    ·rw [heap_setCell_same w2 bc 8 _ _ (.slice ua un uc) HB2.out]; simp
    ·exact hcs2.blk HR2.out (by have := HLE.out; simp; omega)
    ·exact WbsD.mono (mask_grow hcs (fun y hy => by simp at hy; rcases hy with rfl | rfl <;> simp)) _ _ q4
    ·exact (HIX2.out.mono (mask_step HC2.out (by simp))).mono (mask_grow hcs (fun y hy => by simp at hy; rcases hy with rfl | rfl <;> simp))
    ·exact HD2.out.chg hcs2 (by have := HLE.out; simp; omega) (fun y hy => by simp only [List.mem_singleton] at hy; have := HB0.out; have := HBB.out; have := HLE.out; omega)
    exact (HC2.out.weak (fun y hy => by simp at hy; simp [hy])).then hcs
  have t3 : (kind == 3) = false := by simp [h3]
  clear h3
  go_wp2_with fail
  go_meet
  case rel => exact ⟨[], none, 0, 0, HBC.out, HBR2.out, rfl, Nat.le_refl _, Or.inl ⟨rfl, rfl⟩, by unfold WbsD; trivial, HIX2.out, by unfold WbM; trivial, by simp [wbN], HDB.out, Chg.refl _ _, Or.inr rfl⟩
 case rest =>
  obtain ⟨ul, ua, un, uc, hb, hr, q1, q2, q3, q4, q5, q6, q7, q8, q9, qA⟩ := hcut
  obtain ⟨wx, rfl⟩ : ∃ wx : World, wx = wc := ⟨_, rfl⟩
  obtain ⟨c0, c1, c2, c3, c4, c5, c6, c7, c8, c9, cf⟩ := blk10r hb
  obtain ⟨r0, r1, r2, r3, r4, r5, r6, r7, r8, r9, rf⟩ := blk10r hr
  have hbr : br ≠ bc := by have := HLE.out; omega
  have HB := hI hb
  have HR := hI hr
  have HQ := hI (show un = ul.length /\ un <= uc /\ OkAddr ua uc from ⟨q1, q2, q3⟩)
  have H4 := hI q4
  have H67 := hI (show IsEx (mask wx (bd :: bc :: br :: M)) x xv.val /\ WbM attrs names ul /\ wbN ul <= 6 from ⟨q5, q6, q7⟩)
  have H8 := hI q8
  have H9 := hI q9
  have HA := hI qA
  clear hb hr q1 q2 q3 q4 q5 q6 q7 q8 q9 qA HBC HBR2 HIX2 HDB
  go_wp2_with fail
  refine (rMost_calls kind wx).mono ?_
  rintro e w4 ⟨rfl, rfl⟩
  have hmo : 0 <= mostOf kind /\ mostOf kind <= 1073741824 := by
   unfold mostOf
   split
   ·omega
   split <;> omega
  obtain ⟨m, hm⟩ : ∃ m, m = mostOf kind := ⟨_, rfl⟩
  rw [<- hm] at hmo ⊢
  have HMM := hI hm
  obtain ⟨hm0, hm1⟩ := hmo
  clear hm
  by_cases hmp : 0 < m
  ·have tm : decide (0 < m) = true := decide_eq_true hmp
   go_wp2_with fail
   refine (upto_calls H8.out (m - 1) (by omega) (by omega)).mono ?_
   rintro e w5 ⟨z, rfl, hz0, hz1, hd5, hc5⟩
   have hb5 := hc5.blk HB.out (by have := HLE.out; simp; omega)
   have hr5 := hc5.blk HR.out (by have := HLE.out; simp; omega)
   clear c0 c1 c2 c3 c4 c5 c6 c7 c8 c9 cf r0 r1 r2 r3 r4 r5 r6 r7 r8 r9 rf
   obtain ⟨c0, c1, c2, c3, c4, c5, c6, c7, c8, c9, cf⟩ := blk10r hb5
   obtain ⟨r0, r1, r2, r3, r4, r5, r6, r7, r8, r9, rf⟩ := blk10r hr5
   have HB5 := hI hb5
   have HR5 := hI hr5
   have HD5 := hI hd5
   have HC5 := hI hc5
   clear hb5 hr5 hd5 hc5
   go_wp2_with fail
   refine bodyPost_ret (v := clV ⟨kind, name, xv, ua, un, uc, 1 + z⟩) (by simp [results, Tryz.results19, go_sem, clV, r0, r1, r2, r3, r4, r5, r6, r7, r8, r9]) rfl ?_
   refine gcl_fin hat hns HMO.out HA.out (Or.inr (by rw [<- HMM.out]; omega)) HCW.out HXB.out (by have := HLE.out; have := HBB.out; omega) HB0.out HQ.out H4.out H67.out.1 H67.out.2 H9.out HD5.out HC5.out ?_
   repeat (with_reducible (refine Chg.setCell ?_ (Or.inl (by simp)) _))
   exact Chg.refl _ _
  have tm : decide (0 < m) = false := decide_eq_false hmp
  go_wp2_with fail
  refine bodyPost_ret (v := clV ⟨kind, name, xv, ua, un, uc, 0⟩) (by simp [results, Tryz.results19, go_sem, clV, r0, r1, r2, r3, r4, r5, r6, r7, r8, r9]) rfl ?_
  refine gcl_fin hat hns HMO.out HA.out (Or.inl ⟨by rw [<- HMM.out]; omega, rfl⟩) HCW.out HXB.out (by have := HLE.out; have := HBB.out; omega) HB0.out HQ.out H4.out H67.out.1 H67.out.2 H9.out H8.out (Chg.refl _ _) ?_
  repeat (with_reducible (refine Chg.setCell ?_ (Or.inl (by simp)) _))
  exact Chg.refl _ _
open Go.RowKit Go.Maps
def St0 (bf bu bm bp : Nat) : St where
 ρ := fun k => if k = bf then .first else if k = bp then .pile else if k = bm then .miss else if k = bu then .users else .none
 mb := fun _ => 0
 uv := fun _ => none
 U := fun _ => []
 D := fun _ => False
 S := fun _ => False
 M := fun _ _ => False
 pv := .slice none 0 0
 R := []
 vo := .slice none 0 0
 O := []
theorem OB.start {w wr : World} {l : List Dfn} {bf t : Nat} (h : MapAt wr 9 bf t (strF (firstF l))) (hx : Ext w wr) (hb : w.heap.size <= bf) :
  OB w l bf (wr.heap.size + 2) (wr.heap.size + 1) wr.heap.size t (St0 bf (wr.heap.size + 2) (wr.heap.size + 1) wr.heap.size) (((wr.alloc (.cells #[.slice none 0 0] 171)).alloc (.map #[] 0)).alloc (.map #[] 0)) := by
 have hlt := h.lt
 have hsz := hx.size
 have x1 : Ext wr (wr.alloc (.cells #[.slice none 0 0] 171)) := (Ext.refl _).alloc _
 have x2 := x1.alloc (.map #[] 0)
 have x3 := x2.alloc (.map #[] 0)
 have z1 : (wr.alloc (.cells #[.slice none 0 0] 171)).heap.size = wr.heap.size + 1 := by simp
 have z2 : ((wr.alloc (.cells #[.slice none 0 0] 171)).alloc (.map #[] 0)).heap.size = wr.heap.size + 2 := by simp
 refine { ext := hx.trans x3, fresh := ?_, old := ?_, rf := ?_, hf := h.ext x3, ru := ?_, hu := ?_, rows := ?_, rown := fun _ _ => rfl, rm := ?_, hm := ?_, dom := fun _ h => h, sets := fun _ h => h.elim, rp := ?_, hp := ?_, rpv := ?_, hv := World.ownsRow_nil _ _ _ _, rv := ?_ }
 ·intro k hk
  simp at hk
  simp only [St0]
  rw [if_neg (by omega), if_neg (by omega), if_neg (by omega), if_neg (by omega)]
 ·intro k hk
  simp only [St0]
  rw [if_neg (by omega), if_neg (by omega), if_neg (by omega), if_neg (by omega)]
 ·simp [St0]
 ·simp only [St0]
  rw [if_neg (by omega), if_neg (by omega), if_neg (by omega), if_pos trivial]
 ·have := MapAt.made ((wr.alloc (.cells #[.slice none 0 0] 171)).alloc (.map #[] 0)) 9
  rw [z2] at this
  exact (this.more (Nat.zero_le t)).congr fun x => by cases x <;> rfl
 ·intro x v hv; cases hv
 ·simp only [St0]
  rw [if_neg (by omega), if_neg (by omega), if_pos trivial]
 ·have := MapAt.made (wr.alloc (.cells #[.slice none 0 0] 171)) 3
  rw [z1] at this
  refine ((this.more (Nat.zero_le t)).ext ((Ext.refl _).alloc _)).congr fun x => ?_
  cases x <;> try rfl
  rename_i q z
  cases q <;> try rfl
  simp [intF, missF, St0]
 ·simp only [St0]
  rw [if_neg (by omega), if_pos trivial]
 ·have := PileV.fresh wr
  refine ⟨by omega, ?_, World.ownsRow_nil _ _ _ _, by simp [St0, Value.ownBlock]⟩
  exact blk_alloc (blk_alloc (alloc_new wr _))
 ·intro g hg; simp [St0, Value.ownBlock] at hg
 intro g hg; simp [St0, Value.ownBlock] at hg
theorem IsStrs.chg {w w' : World} {l : ZB} {a : OA} {n c : Nat} {N : ZN} (h : IsStrs w l a n c) (hc : Chg N w w') (hN : ∀ b off, a = some ⟨b, off, none⟩ -> b ∉ N) : IsStrs w' l a n c :=
 ⟨h.1, h.2.1, h.2.2.1, fun i hi => by
  obtain ⟨b, off, h1, h2⟩ := h.2.2.2 i hi
  refine ⟨b, off, h1, ?_⟩
  have hb := block_lt h2
  unfold World.cell? at h2 ⊢
  rw [hc.block b hb (hN b off h1)]
  exact h2⟩
theorem rerole_none {ρ : Nat -> Role} {v v' : Value} {r : Role} {n k : Nat} (hk : ρ k = .none) (hkn : k < n) (hr : r ≠ .none) (hv : ∀ g, v.ownBlock = some g -> ρ g = r) (hw : ∀ g, v'.ownBlock = some g -> v.ownBlock = some g \/ n <= g) : rerole ρ v' r k = .none := by
 rw [rerole_other, hk]
 intro g hg e
 subst e
 rcases hw k hg with h | h
 ·exact hr ((hv k h).symm.trans hk)
 omega
open Classical in
noncomputable def UL (l : List Dfn) (k : Nat) (x : BA) : ZN := if (firstAt l x).isSome then (List.range k).filter fun i => isDef l i && (usesAt l i).any fun y => decide (y = x) else []
def RL (l : List Dfn) (k : Nat) : ZN := (List.range k).filter fun i => isDef l i && (missL l [] i).isEmpty
def cntTo (l : List Dfn) (k : Nat) : Nat := ((List.range k).filter (isDef l)).length
def natI (l : ZN) : ZI := l.map fun (i : Nat) => (i : Int)
structure Ph2 (l : List Dfn) (k : Nat) (s : St) : Prop where
 D : ∀ i, s.D i ↔ (i < k /\ isDef l i = true)
 S : ∀ i, s.S i ↔ (i < k /\ isDef l i = true)
 M : ∀ i, s.S i -> ∀ x, s.M i x ↔ x ∈ missL l [] i
 U : ∀ x, s.U x = UL l k x
 R : s.R.Perm (natI (RL l k))
 vo : s.vo = .slice none 0 0
 O : s.O = []
theorem Ph2.start (l : List Dfn) (bf bu bm bp : Nat) : Ph2 l 0 (St0 bf bu bm bp) where
 D i := by simp [St0]
 S i := by simp [St0]
 M i h := h.elim
 U x := by simp [St0, UL]
 R := by simp [St0, RL, natI]
 vo := rfl
 O := rfl
structure Ph3 (l : List Dfn) (k j : Nat) (s : St) : Prop where
 D : ∀ i, s.D i ↔ (i < k /\ isDef l i = true)
 S : ∀ i, s.S i ↔ ((i < k /\ isDef l i = true) \/ i = k)
 M : ∀ i, i < k -> s.S i -> ∀ x, s.M i x ↔ x ∈ missL l [] i
 Mk : ∀ x, s.M k x ↔ (x ∈ (usesAt l k).take j /\ (firstAt l x).isSome = true)
 U : ∀ x, s.U x = if (firstAt l x).isSome = true /\ x ∈ (usesAt l k).take j then UL l k x ++ [k] else UL l k x
 R : s.R.Perm (natI (RL l k))
 vo : s.vo = .slice none 0 0
 O : s.O = []
theorem Ph2.skip {l : List Dfn} {k : Nat} {s : St} (h : Ph2 l k s) (hd : isDef l k = false) : Ph2 l (k + 1) s /\ cntTo l (k + 1) = cntTo l k := by
 have hi : ∀ i, (i < k + 1 /\ isDef l i = true) ↔ (i < k /\ isDef l i = true) := fun i => by
  constructor
  ·rintro ⟨h1, h2⟩
   refine ⟨?_, h2⟩
   rcases Nat.lt_or_ge i k with h' | h'
   ·exact h'
   obtain rfl : i = k := by omega
   rw [hd] at h2; cases h2
  rintro ⟨h1, h2⟩; exact ⟨by omega, h2⟩
 refine ⟨{ D := fun i => (h.D i).trans (hi i).symm, S := fun i => (h.S i).trans (hi i).symm, M := h.M, U := fun x => ?_, R := ?_, vo := h.vo, O := h.O }, ?_⟩
 ·rw [h.U]
  unfold UL
  rw [List.range_succ, List.filter_append]
  simp [hd]
 ·refine h.R.trans (List.Perm.of_eq ?_)
  unfold RL
  rw [List.range_succ, List.filter_append]
  simp [hd]
 unfold cntTo
 rw [List.range_succ, List.filter_append]
 simp [hd]
theorem Ph2.enter {l : List Dfn} {k : Nat} {s : St} (h : Ph2 l k s) (b : Nat) : Ph3 l k 0 (s.newSet k b) where
 D i := h.D i
 S i := by
  show (i = k \/ s.S i) ↔ _
  rw [h.S]; exact Or.comm
 M i hi hS x := by
  show upN s.M k (fun _ => False) i x ↔ _
  rw [upN_other _ _ (by omega)]
  refine h.M i ?_ x
  rcases hS with e | e
  ·omega
  exact e
 Mk x := by
  show upN s.M k (fun _ => False) k x ↔ _
  rw [upN_same]; simp
 U x := by
  show s.U x = _
  rw [h.U]; simp
 R := h.R
 vo := h.vo
 O := h.O
theorem take_succ_mem {α : Type} {l : List α} {j : Nat} (hj : j < l.length) (x : α) : x ∈ l.take (j + 1) ↔ x ∈ l.take j \/ x = l[j] := by
 rw [List.take_succ_eq_append_getElem hj, List.mem_append, List.mem_singleton]
theorem Ph3.skip {l : List Dfn} {k j : Nat} {s : St} (h : Ph3 l k j s) (hj : j < (usesAt l k).length) (hf : firstAt l (usesAt l k)[j] = none) : Ph3 l k (j + 1) s := by
 have hx : ∀ x, ((firstAt l x).isSome = true /\ x ∈ (usesAt l k).take (j + 1)) ↔ ((firstAt l x).isSome = true /\ x ∈ (usesAt l k).take j) := fun x => by
  rw [take_succ_mem hj]
  constructor
  ·rintro ⟨h1, h2 | rfl⟩
   ·exact ⟨h1, h2⟩
   rw [hf] at h1; cases h1
  rintro ⟨h1, h2⟩; exact ⟨h1, Or.inl h2⟩
 exact { h with
  Mk := fun x => by rw [h.Mk, and_comm, <- hx x, and_comm]
  U := fun x => by
   rw [h.U]
   by_cases hc : (firstAt l x).isSome = true /\ x ∈ (usesAt l k).take j
   ·rw [if_pos hc, if_pos ((hx x).2 hc)]
   rw [if_neg hc, if_neg fun h' => hc ((hx x).1 h')] }
theorem Ph3.step {l : List Dfn} {k j : Nat} {s : St} (h : Ph3 l k j s) (hj : j < (usesAt l k).length) (hf : (firstAt l (usesAt l k)[j]).isSome = true) (hnd : (usesAt l k).Nodup) (v : Value) :
  Ph3 l k (j + 1) ((s.setM k fun x => x = (usesAt l k)[j] \/ s.M k x).setU (usesAt l k)[j] v (s.U (usesAt l k)[j] ++ [k])) := by
 have hnot : (usesAt l k)[j] ∉ (usesAt l k).take j := by
  intro hm
  obtain ⟨q, hq, e⟩ := List.mem_iff_getElem.1 hm
  have hq' : q < j := by simp at hq; omega
  rw [List.getElem_take] at e
  have := (List.pairwise_iff_getElem.1 hnd) q j (by omega) hj hq'
  exact this e
 refine { D := h.D, S := h.S, M := fun i hi hS x => ?_, Mk := fun x => ?_, U := fun x => ?_, R := h.R, vo := h.vo, O := h.O }
 ·show upN s.M k _ i x ↔ _
  rw [upN_other _ _ (by omega)]
  exact h.M i hi hS x
 ·show upN s.M k _ k x ↔ _
  rw [upN_same, take_succ_mem hj, h.Mk]
  constructor
  ·rintro (rfl | ⟨h1, h2⟩)
   ·exact ⟨Or.inr rfl, hf⟩
   exact ⟨Or.inl h1, h2⟩
  rintro ⟨h1 | rfl, h2⟩
  ·exact Or.inr ⟨h1, h2⟩
  exact Or.inl rfl
 show upS s.U (usesAt l k)[j] (s.U (usesAt l k)[j] ++ [k]) x = _
 by_cases e : x = (usesAt l k)[j]
 ·rw [e, upS_same, if_pos ⟨hf, (take_succ_mem hj _).2 (Or.inr rfl)⟩, h.U, if_neg fun h' => hnot h'.2]
 rw [upS_other _ _ e, h.U]
 have hx : ((firstAt l x).isSome = true /\ x ∈ (usesAt l k).take (j + 1)) ↔ ((firstAt l x).isSome = true /\ x ∈ (usesAt l k).take j) := by
  rw [take_succ_mem hj]
  exact ⟨fun ⟨h1, h2⟩ => ⟨h1, h2.resolve_right e⟩, fun ⟨h1, h2⟩ => ⟨h1, Or.inl h2⟩⟩
 by_cases hc : (firstAt l x).isSome = true /\ x ∈ (usesAt l k).take j
 ·rw [if_pos hc, if_pos (hx.2 hc)]
 rw [if_neg hc, if_neg fun h' => hc (hx.1 h')]
theorem isSome_iff {l : List Dfn} {x : BA} : (firstAt l x).isSome = true ↔ ∃ d, firstAt l x = some d := by
 cases firstAt l x <;> simp
theorem UL_succ {l : List Dfn} {k : Nat} (hd : isDef l k = true) (x : BA) : UL l (k + 1) x = if (firstAt l x).isSome = true /\ x ∈ usesAt l k then UL l k x ++ [k] else UL l k x := by
 unfold UL
 by_cases hs : (firstAt l x).isSome = true
 ·simp only [hs, if_true, true_and]
  rw [List.range_succ, List.filter_append]
  by_cases hm : x ∈ usesAt l k
  ·rw [if_pos hm]
   congr 1
   have : ((usesAt l k).any fun y => decide (y = x)) = true := List.any_eq_true.2 ⟨x, hm, by simp⟩
   simp [hd, this]
  rw [if_neg hm]
  have : ((usesAt l k).any fun y => decide (y = x)) = false := by
   rw [List.any_eq_false]
   intro y hy
   simp only [decide_eq_true_eq]
   intro e
   exact hm (e ▸ hy)
  simp [hd, this]
 simp [hs]
theorem Ph3.leave {l : List Dfn} {k : Nat} {s : St} (h : Ph3 l k (usesAt l k).length s) (hd : isDef l k = true) (he : missL l [] k ≠ []) : Ph2 l (k + 1) (s.setD k) /\ cntTo l (k + 1) = cntTo l k + 1 := by
 have hi : ∀ i, (i < k + 1 /\ isDef l i = true) ↔ (i = k \/ (i < k /\ isDef l i = true)) := fun i => ⟨fun ⟨h1, h2⟩ => by
  rcases Nat.lt_or_ge i k with h' | h'
  ·exact Or.inr ⟨h', h2⟩
  ·exact Or.inl (by omega), fun h' => by
  rcases h' with rfl | ⟨h1, h2⟩
  ·exact ⟨by omega, hd⟩
  exact ⟨by omega, h2⟩⟩
 refine ⟨{ D := fun i => ?_, S := fun i => ?_, M := fun i hS x => ?_, U := fun x => ?_, R := ?_, vo := h.vo, O := h.O }, ?_⟩
 ·show (i = k \/ s.D i) ↔ _
  rw [h.D, hi]
 ·show s.S i ↔ _
  rw [h.S, hi, Or.comm]
 ·show s.M i x ↔ _
  by_cases e : i = k
  ·subst e
   rw [h.Mk, List.take_length, mem_miss]
   constructor
   ·rintro ⟨h1, h2⟩
    obtain ⟨d, hd⟩ := isSome_iff.1 h2
    exact ⟨h1, d, hd, by simp⟩
   rintro ⟨h1, d, h2, _⟩
   exact ⟨h1, isSome_iff.2 ⟨d, h2⟩⟩
  refine h.M i ?_ hS x
  have := (h.S i).1 hS
  omega
 ·show s.U x = _
  rw [h.U, List.take_length, UL_succ hd]
 ·refine h.R.trans (List.Perm.of_eq ?_)
  unfold RL
  rw [List.range_succ, List.filter_append]
  simp [hd, he]
 unfold cntTo
 rw [List.range_succ, List.filter_append]
 simp [hd]
theorem Ph3.leave0 {l : List Dfn} {k : Nat} {s : St} (h : Ph3 l k (usesAt l k).length s) (hd : isDef l k = true) (he : missL l [] k = []) {pv : Value} {R : ZI} (hR : R.Perm (s.R ++ [(k : Int)])) : Ph2 l (k + 1) ((s.setD k).setP pv R) /\ cntTo l (k + 1) = cntTo l k + 1 := by
 have hi : ∀ i, (i < k + 1 /\ isDef l i = true) ↔ (i = k \/ (i < k /\ isDef l i = true)) := fun i => ⟨fun ⟨h1, h2⟩ => by
  rcases Nat.lt_or_ge i k with h' | h'
  ·exact Or.inr ⟨h', h2⟩
  ·exact Or.inl (by omega), fun h' => by
  rcases h' with rfl | ⟨h1, h2⟩
  ·exact ⟨by omega, hd⟩
  exact ⟨by omega, h2⟩⟩
 refine ⟨{ D := fun i => ?_, S := fun i => ?_, M := fun i hS x => ?_, U := fun x => ?_, R := ?_, vo := h.vo, O := h.O }, ?_⟩
 ·show (i = k \/ s.D i) ↔ _
  rw [h.D, hi]
 ·show s.S i ↔ _
  rw [h.S, hi, Or.comm]
 ·show s.M i x ↔ _
  by_cases e : i = k
  ·subst e
   rw [h.Mk, List.take_length, mem_miss]
   constructor
   ·rintro ⟨h1, h2⟩
    obtain ⟨d, hd⟩ := isSome_iff.1 h2
    exact ⟨h1, d, hd, by simp⟩
   rintro ⟨h1, d, h2, _⟩
   exact ⟨h1, isSome_iff.2 ⟨d, h2⟩⟩
  refine h.M i ?_ hS x
  have := (h.S i).1 hS
  omega
 ·show s.U x = _
  rw [h.U, List.take_length, UL_succ hd]
 ·refine hR.trans ?_
  have e : natI (RL l (k + 1)) = natI (RL l k) ++ [(k : Int)] := by
   unfold RL natI
   rw [List.range_succ, List.filter_append, List.map_append]
   simp [hd, he]
  rw [e]
  exact List.Perm.append_right _ h.R
 unfold cntTo
 rw [List.range_succ, List.filter_append]
 simp [hd]
theorem refNames_len2 (l : ZB) : (refNames l).length <= l.length := by have := fold_len l []; simpa [refNames] using this
mutual
theorem names_fit : (e : Ex) -> e.fits -> ∀ x ∈ namesE e, x.size <= 1000000000000000
 | .mk op name words lo hi args, h, x, hx => by
  obtain ⟨h1, h2⟩ := fits_parts2 h
  rw [namesE, List.mem_append] at hx
  rcases hx with hx | hx
  ·split at hx
   ·simp at hx; subst hx; exact h1
   simp at hx
  exact namesL_fit args h2 x hx
theorem namesL_fit : (l : List Ex) -> (∀ y ∈ l, y.fits) -> ∀ x ∈ namesL l, x.size <= 1000000000000000
 | [], _, x, hx => by rw [namesL] at hx; simp at hx
 | e :: r, h, x, hx => by
  rw [namesL, List.mem_append] at hx
  rcases hx with hx | hx
  ·exact names_fit e (h e (by simp)) x hx
  exact namesL_fit r (fun y hy => h y (by simp [hy])) x hx
end
def tb (k : Nat) : Nat := 1000 + k * 1000000
theorem tb_succ (k : Nat) : tb k + 1000000 <= tb (k + 1) := by unfold tb; omega
theorem tb_le {k : Nat} (h : k <= 1000) : tb k <= 2000000000 := by unfold tb; omega
theorem tb_zero : 1000 <= tb 0 := by unfold tb; omega
theorem cnt_le (l : List Dfn) (k : Nat) : cntTo l k <= k := by
 unfold cntTo
 have := List.length_filter_le (isDef l) (List.range k)
 simpa using this
theorem UL_le (l : List Dfn) (k : Nat) (x : BA) : (UL l k x).length <= k := by
 unfold UL
 split
 ·have := List.length_filter_le (fun i => isDef l i && (usesAt l i).any fun y => decide (y = x)) (List.range k)
  simpa using this
 simp
theorem RL_le (l : List Dfn) (k : Nat) : (RL l k).length <= k := by
 unfold RL
 have := List.length_filter_le (fun i => isDef l i && (missL l [] i).isEmpty) (List.range k)
 simpa using this
structure Ph4 (l : List Dfn) (s : St) : Prop where
 D : ∀ i, s.D i ↔ isDef l i = true
 S : ∀ i, s.S i ↔ isDef l i = true
 M : ∀ i, isDef l i = true -> ∀ x, s.M i x ↔ x ∈ missL l s.O i
 U : ∀ x, s.U x = UL l l.length x
 inv : ∃ R, s.R.Perm (natI R) /\ OInv l s.O R
theorem Ph2.finish {l : List Dfn} {s : St} (h : Ph2 l l.length s) : Ph4 l s where
 D i := (h.D i).trans ⟨fun h => h.2, fun h => ⟨isDef_lt h, h⟩⟩
 S i := (h.S i).trans ⟨fun h => h.2, fun h => ⟨isDef_lt h, h⟩⟩
 M i hi x := by rw [h.O]; exact h.M i ((h.S i).2 ⟨isDef_lt hi, hi⟩) x
 U := h.U
 inv := ⟨RL l l.length, h.R, by rw [h.O]; exact OInv.start l⟩
theorem natI_perm {R : ZN} {z : Int} {ys : ZI} (h : (natI R).Perm (z :: ys)) : ∃ (i : Nat) (R' : ZN), z = i /\ R.Perm (i :: R') /\ ys.Perm (natI R') := by
 have hz : z ∈ natI R := h.mem_iff.2 (by simp)
 obtain ⟨i, hi, rfl⟩ := List.mem_map.1 hz
 refine ⟨i, R.erase i, rfl, List.perm_cons_erase hi, ?_⟩
 have h1 : (natI R).Perm (natI (i :: R.erase i)) := (List.perm_cons_erase hi).map _
 have h2 : (natI (i :: R.erase i)) = (i : Int) :: natI (R.erase i) := rfl
 rw [h2] at h1
 exact List.Perm.cons_inv (h.symm.trans h1)
theorem mem_miss_snoc {l : List Dfn} {o : ZN} {i u : Nat} (hf : firstAt l (nameAt l i) = some i) (x : BA) : x ∈ missL l (o ++ [i]) u ↔ (x ∈ missL l o u /\ x ≠ nameAt l i) := by
 rw [mem_miss, mem_miss]
 constructor
 ·rintro ⟨h1, d, h2, h3⟩
  simp only [List.mem_append, List.mem_singleton, not_or] at h3
  refine ⟨⟨h1, d, h2, h3.1⟩, fun e => ?_⟩
  rw [e, hf] at h2
  cases h2
  exact h3.2 rfl
 rintro ⟨⟨h1, d, h2, h3⟩, h4⟩
 refine ⟨h1, d, h2, ?_⟩
 simp only [List.mem_append, List.mem_singleton, not_or]
 exact ⟨h3, fun e => h4 (by rw [<- e]; exact (first_def h2).2.symm)⟩
structure Ph5 (l : List Dfn) (o : ZN) (i : Nat) (R' : ZN) (uv : BA -> Option Value) (vo : Value) (j : Nat) (s : St) : Prop where
 D : ∀ i, s.D i ↔ isDef l i = true
 S : ∀ i, s.S i ↔ isDef l i = true
 M : ∀ u, isDef l u = true -> ∀ x, s.M u x ↔ x ∈ missL l (if u ∈ (UL l l.length (nameAt l i)).take j then o ++ [i] else o) u
 U : ∀ x, s.U x = UL l l.length x
 uv : s.uv = uv
 O : s.O = o ++ [i]
 vo : s.vo = vo
 R : s.R.Perm (natI (R' ++ ((UL l l.length (nameAt l i)).take j).filter fun u => (missL l (o ++ [i]) u).isEmpty))
theorem UL_nodup (l : List Dfn) (k : Nat) (x : BA) : (UL l k x).Nodup := by
 unfold UL
 split
 ·exact List.nodup_range.filter _
 exact List.nodup_nil
theorem UL_users {l : List Dfn} {x : BA} {d : Nat} (h : firstAt l x = some d) : UL l l.length x = usersOf l x := by
 unfold UL usersOf
 rw [h]; rfl
theorem UL_def {l : List Dfn} {k : Nat} {x : BA} {u : Nat} (h : u ∈ UL l k x) : isDef l u = true /\ x ∈ usesAt l u := by
 unfold UL at h
 split at h
 ·simp only [List.mem_filter, Bool.and_eq_true, List.any_eq_true, decide_eq_true_eq, exists_eq_right] at h
  exact h.2
 simp at h
theorem Ph5.start {l : List Dfn} {s : St} {R' : ZN} {i : Nat} {R1 : ZI} {pv vo : Value} (h : Ph4 l s) (hR : R1.Perm (natI R')) : Ph5 l s.O i R' s.uv vo 0 ((s.setP pv R1).setO vo (s.O ++ [i])) where
 D := h.D
 S := h.S
 M u hu x := by
  show s.M u x ↔ _
  simpa using h.M u hu x
 U := h.U
 uv := rfl
 O := rfl
 vo := rfl
 R := by
  show R1.Perm _
  simpa using hR
theorem not_take {α : Type} {l : List α} (h : l.Nodup) {j : Nat} (hj : j < l.length) : l[j] ∉ l.take j := by
 intro hm
 obtain ⟨q, hq, e⟩ := List.mem_iff_getElem.1 hm
 have hq' : q < j := by simp at hq; omega
 rw [List.getElem_take] at e
 exact (List.pairwise_iff_getElem.1 h) q j (by omega) hj hq' e
theorem Ph5.del {l : List Dfn} {o : ZN} {i : Nat} {R' : ZN} {uv : BA -> Option Value} {vo : Value} {j : Nat} {s : St} (h : Ph5 l o i R' uv vo j s) (hf : firstAt l (nameAt l i) = some i) (hj : j < (UL l l.length (nameAt l i)).length)
  {u : Nat} (hu : u = (UL l l.length (nameAt l i))[j]) : (∀ y, (s.M u y /\ y ≠ nameAt l i) ↔ y ∈ missL l (o ++ [i]) u) /\ ((missL l (o ++ [i]) u).isEmpty = false -> Ph5 l o i R' uv vo (j + 1) (s.setM u fun y => s.M u y /\ y ≠ nameAt l i)) /\
  ((missL l (o ++ [i]) u).isEmpty = true -> ∀ pv R1, R1.Perm (s.R ++ [(u : Int)]) -> Ph5 l o i R' uv vo (j + 1) ((s.setM u fun y => s.M u y /\ y ≠ nameAt l i).setP pv R1)) := by
 have hud := UL_def (show u ∈ UL l l.length (nameAt l i) by rw [hu]; exact List.getElem_mem hj)
 have hnt : u ∉ (UL l l.length (nameAt l i)).take j := by rw [hu]; exact not_take (UL_nodup l _ _) hj
 have key : ∀ y, (s.M u y /\ y ≠ nameAt l i) ↔ y ∈ missL l (o ++ [i]) u := fun y => by
  rw [h.M u hud.1, if_neg hnt, mem_miss_snoc hf]
 have hM : ∀ v, isDef l v = true -> ∀ x, (upN s.M u fun y => s.M u y /\ y ≠ nameAt l i) v x ↔ x ∈ missL l (if v ∈ (UL l l.length (nameAt l i)).take (j + 1) then o ++ [i] else o) v := by
  intro v hv x
  by_cases e : v = u
  ·subst e
   rw [upN_same, if_pos ((take_succ_mem hj _).2 (Or.inr hu))]
   exact key x
  rw [upN_other _ _ e, h.M v hv]
  have : v ∈ (UL l l.length (nameAt l i)).take (j + 1) ↔ v ∈ (UL l l.length (nameAt l i)).take j := by
   rw [take_succ_mem hj]
   exact ⟨fun h => h.resolve_right (by rw [<- hu]; exact e), Or.inl⟩
  by_cases hc : v ∈ (UL l l.length (nameAt l i)).take j
  ·rw [if_pos hc, if_pos (this.2 hc)]
  rw [if_neg hc, if_neg fun h' => hc (this.1 h')]
 refine ⟨key, fun hne => ?_, fun hem pv R1 hR1 => ?_⟩
 ·refine { h with M := hM, R := ?_ }
  refine h.R.trans (List.Perm.of_eq ?_)
  rw [List.take_succ_eq_append_getElem hj, List.filter_append, <- hu]
  simp [hne]
 refine { h with M := hM, R := ?_ }
 refine hR1.trans ?_
 rw [List.take_succ_eq_append_getElem hj, List.filter_append, <- hu]
 have e : natI (R' ++ (((UL l l.length (nameAt l i)).take j).filter (fun u => (missL l (o ++ [i]) u).isEmpty) ++ [u].filter fun u => (missL l (o ++ [i]) u).isEmpty)) = natI (R' ++ ((UL l l.length (nameAt l i)).take j).filter fun u => (missL l (o ++ [i]) u).isEmpty) ++ [(u : Int)] := by
  simp [natI, hem]
 rw [e]
 exact List.Perm.append_right _ h.R
theorem Ph5.finish {l : List Dfn} {o : ZN} {i : Nat} {R R' : ZN} {uv : BA -> Option Value} {vo : Value} {s : St} (h : Ph5 l o i R' uv vo (UL l l.length (nameAt l i)).length s) (hf : firstAt l (nameAt l i) = some i) (hi : OInv l o R) (hR : R.Perm (i :: R')) : Ph4 l s where
 D := h.D
 S := h.S
 M u hu x := by
  rw [h.M u hu, h.O, List.take_length]
  by_cases hc : u ∈ UL l l.length (nameAt l i)
  ·rw [if_pos hc]
  rw [if_neg hc, mem_miss_snoc hf]
  refine ⟨fun hx => ⟨hx, fun e => hc ?_⟩, fun hx => hx.1⟩
  have h1 := (mem_miss.1 hx).1
  rw [e] at h1
  rw [UL_users hf]
  unfold usersOf
  simp only [List.mem_filter, List.mem_range, Bool.and_eq_true, List.any_eq_true, decide_eq_true_eq, exists_eq_right]
  exact ⟨isDef_lt hu, hu, h1⟩
 U := h.U
 inv := by
  refine ⟨R' ++ freed l o i, ?_, by rw [h.O]; exact hi.first hR hf⟩
  have := h.R
  rw [List.take_length, UL_users hf] at this
  exact this
theorem Ph4.other {l : List Dfn} {s : St} {R R' : ZN} {i : Nat} {R1 : ZI} {pv vo : Value} (h : Ph4 l s) (hi : OInv l s.O R) (hR : R.Perm (i :: R')) (hR1 : R1.Perm (natI R')) (hn : ∀ x, firstAt l x ≠ some i) : Ph4 l ((s.setP pv R1).setO vo (s.O ++ [i])) where
 D := h.D
 S := h.S
 M u hu x := by
  show s.M u x ↔ x ∈ missL l (s.O ++ [i]) u
  rw [h.M u hu, mem_miss, mem_miss]
  constructor
  ·rintro ⟨h1, d, h2, h3⟩
   refine ⟨h1, d, h2, ?_⟩
   simp only [List.mem_append, List.mem_singleton, not_or]
   exact ⟨h3, fun e => hn x (by rw [h2, e])⟩
  rintro ⟨h1, d, h2, h3⟩
  simp only [List.mem_append, List.mem_singleton, not_or] at h3
  exact ⟨h1, d, h2, h3.1⟩
 U := h.U
 inv := ⟨R', hR1, hi.other hR hn⟩
theorem cnt_all (l : List Dfn) : cntTo l l.length = countOf l := rfl
theorem first_of_def {l : List Dfn} {i : Nat} (h : isDef l i = true) : ∃ d, firstAt l (nameAt l i) = some d /\ d <= i := by
 have hlt := isDef_lt h
 cases hf : firstAt l (nameAt l i) with
 | none =>
  unfold firstAt at hf
  rw [List.findIdx?_eq_none_iff] at hf
  have := hf l[i] (List.getElem_mem hlt)
  unfold isDef at h
  unfold nameAt at this
  rw [List.getElem?_eq_getElem hlt] at h this
  simp [h] at this
 | some d =>
  refine ⟨d, rfl, ?_⟩
  unfold firstAt at hf
  rw [List.findIdx?_eq_some_iff_getElem] at hf
  obtain ⟨_, _, h3⟩ := hf
  rcases Nat.lt_or_ge i d with h' | h'
  ·have := h3 i h'
   unfold isDef at h
   unfold nameAt at this
   rw [List.getElem?_eq_getElem hlt] at h this
   simp [h] at this
  exact h'
end Go.Proofs.YtefjomofjejklaaGreatDoor
