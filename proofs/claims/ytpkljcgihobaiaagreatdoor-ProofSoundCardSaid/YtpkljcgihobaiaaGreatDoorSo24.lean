/-
  Texts of the claim, joined: Ver2, Made10, DFacts.
-/
import Derived.Test.YtpkljcgihobaiaaGreatDoorSo23
namespace Go.Proofs.YtpkljcgihobaiaaGreatDoor
set_option maxRecDepth 100000
set_option maxHeartbeats 32000000
open Go.RowKit Go.Maps
def GrGS (wr : World) (_ : ZN) (_ : Nat -> Value) (W : World) : Prop := Ext wr W
def ver3F (w : World) (sa : OA) (sn sc bm : Nat) (fa : OA) (fn fc : Nat) (_name : BA) (_aw : OA) (_nw _cw : Nat) (_lo _hi : Int) (na ca xb xo : Nat) (x0 : Int) (x1 : BA) (aw1 : OA) (nw1 cw1 : Nat) (x5 x6 : Int) (aa1 : OA) (na1 ca1 : Nat) (pb : Bool) (pk : Int) (pa : OA) (pn pc : Nat) : Nat -> Value -> World -> Prop
 | 0, u, _ => u = .agg #[.slice sa sn sc, .map (some bm), .slice fa fn fc]
 | 1, u, _ => u = .pointer (some ⟨w.heap.size + 1, 5, none⟩)
 | 2, u, _ => u = .slice (some ⟨xb, xo, none⟩) na ca
 | 3, u, _ => u = .pointer (some ⟨xb, xo, none⟩)
 | 4, u, _ => u = .agg #[.int .i64 x0, .string x1, .slice aw1 nw1 cw1, .int .i64 x5, .int .i64 x6, .slice aa1 na1 ca1]
 | 5, u, _ => u = .agg #[.bool pb, .int .i64 pk, .slice pa pn pc]
 | 6, u, _ => u = .bool false
 | 7, u, _ => u = .bool false
 | 8, u, _ => u = undef
 | 9, u, _ => u = undef
 | 10, u, _ => u = undef
 | 11, u, _ => u = undef
 | 12, u, _ => u = undef
 | 13, u, _ => u = undef
 | 14, u, _ => u = undef
 | 15, u, _ => u = undef
 | 16, u, _ => u = .bool false
 | _, u, _ => u = .bool false
def ver3T (w : World) (sa : OA) (sn sc bm : Nat) (fa : OA) (fn fc : Nat) (_name : BA) (_aw : OA) (_nw _cw : Nat) (_lo _hi : Int) (na ca xb xo : Nat) (x0 : Int) (x1 : BA) (aw1 : OA) (nw1 cw1 : Nat) (x5 x6 : Int) (aa1 : OA) (na1 ca1 : Nat) (pb : Bool) (pk : Int) (b off pc : Nat) (qb : Bool) : Nat -> Value -> World -> Prop
 | 0, u, _ => u = .agg #[.slice sa sn sc, .map (some bm), .slice fa fn fc]
 | 1, u, _ => u = .pointer (some ⟨w.heap.size + 1, 5, none⟩)
 | 2, u, _ => u = .slice (some ⟨xb, xo, none⟩) na ca
 | 3, u, _ => u = .pointer (some ⟨xb, xo, none⟩)
 | 4, u, _ => u = .agg #[.int .i64 x0, .string x1, .slice aw1 nw1 cw1, .int .i64 x5, .int .i64 x6, .slice aa1 na1 ca1]
 | 5, u, _ => u = .agg #[.bool pb, .int .i64 pk, .slice (some ⟨b, off, none⟩) 1 pc]
 | 6, u, _ => u = .bool true
 | 7, u, _ => u = .bool true
 | 8, u, _ => u = .pointer (some ⟨w.heap.size + 1 + 1, 0, none⟩)
 | 9, u, _ => u = .bool pb
 | 10, u, _ => u = .pointer (some ⟨w.heap.size + 1 + 1, 2, none⟩)
 | 11, u, _ => u = .slice (some ⟨b, off, none⟩) 1 pc
 | 12, u, _ => u = .pointer (some ⟨b, off, none⟩)
 | 13, u, _ => u = .pointer (some ⟨b, off, none⟩)
 | 14, u, _ => u = .bool qb
 | 15, u, _ => u = .bool (!(pb == qb))
 | 16, u, _ => u = .bool (!(pb == qb))
 | _, u, _ => u = .bool (!(pb == qb))
def ver10 (w : World) (sa : OA) (sn sc bm : Nat) (fa : OA) (fn fc : Nat) (op : Int) (name : BA) (aw : OA) (nw cw : Nat) (lo hi : Int) (aa : OA) (na ca : Nat) (pb : Bool) (pa : OA) (pc : Nat) (B T : Bool) : Nat -> Value -> World -> Prop
 | 0, u, _ => u = .pointer (some ⟨w.heap.size + 1 + 1, 1, none⟩)
 | 1, u, _ => u = .int .i64 (-1)
 | 2, u, _ => u = .bool true
 | 3, u, _ => u = .bool true
 | 4, u, _ => u = .pointer (some ⟨w.heap.size + 1 + 1, 2, none⟩)
 | 5, u, _ => u = .slice pa 0 pc
 | 6, u, _ => u = .int .i64 0
 | 7, u, _ => u = .bool true
 | 8, u, _ => u = .bool true
 | 9, u, _ => u = .bool true
 | 10, u, _ => u = .pointer (some ⟨w.heap.size + 1 + 1, 0, none⟩)
 | 11, u, _ => u = .bool pb
 | 12, u, _ => u = .agg #[.slice sa sn sc, .map (some bm), .slice fa fn fc]
 | 13, u, _ => u = .agg #[.int .i64 op, .string name, .slice aw nw cw, .int .i64 lo, .int .i64 hi, .slice aa na ca]
 | 14, u, _ => u = .bool B
 | 15, u, _ => u = .bool T
 | 16, u, _ => u = .bool T
 | _, u, _ => u = .bool T
def ver9F (_w : World) (sa : OA) (sn sc bm : Nat) (fa : OA) (fn fc : Nat) (_y : Nat) (v0 : Int) (v1 : BA) (v2 : OA) (v3 v4 : Nat) (v5 v6 : Int) (v7 : OA) (v8 v9 : Nat) (pb : Bool) (pk : Int) (pa : OA) (pn pc : Nat) : Nat -> Value -> World -> Prop
 | 0, u, _ => u = .agg #[.slice sa sn sc, .map (some bm), .slice fa fn fc]
 | 1, u, _ => u = .agg #[.int .i64 v0, .string v1, .slice v2 v3 v4, .int .i64 v5, .int .i64 v6, .slice v7 v8 v9]
 | 2, u, _ => u = .agg #[.bool pb, .int .i64 pk, .slice pa pn pc]
 | 3, u, _ => u = .bool false
 | 4, u, _ => u = .bool false
 | 5, u, _ => u = undef
 | 6, u, _ => u = undef
 | 7, u, _ => u = undef
 | 8, u, _ => u = undef
 | 9, u, _ => u = undef
 | 10, u, _ => u = undef
 | 11, u, _ => u = undef
 | 12, u, _ => u = undef
 | 13, u, _ => u = .bool false
 | _, u, _ => u = .bool false
def ver9T (w : World) (sa : OA) (sn sc bm : Nat) (fa : OA) (fn fc : Nat) (_y : Nat) (v0 : Int) (v1 : BA) (v2 : OA) (v3 v4 : Nat) (v5 v6 : Int) (v7 : OA) (v8 v9 : Nat) (pb : Bool) (pk : Int) (b off pc : Nat) (T : Bool) (qb : Bool) : Nat -> Value -> World -> Prop
 | 0, u, _ => u = .agg #[.slice sa sn sc, .map (some bm), .slice fa fn fc]
 | 1, u, _ => u = .agg #[.int .i64 v0, .string v1, .slice v2 v3 v4, .int .i64 v5, .int .i64 v6, .slice v7 v8 v9]
 | 2, u, _ => u = .agg #[.bool pb, .int .i64 pk, .slice (some ⟨b, off, none⟩) 1 pc]
 | 3, u, _ => u = .bool true
 | 4, u, _ => u = .bool true
 | 5, u, _ => u = .pointer (some ⟨w.heap.size + 1 + 1, 0, none⟩)
 | 6, u, _ => u = .bool pb
 | 7, u, _ => u = .pointer (some ⟨w.heap.size + 1 + 1, 2, none⟩)
 | 8, u, _ => u = .slice (some ⟨b, off, none⟩) 1 pc
 | 9, u, _ => u = .pointer (some ⟨b, off, none⟩)
 | 10, u, _ => u = .pointer (some ⟨b, off, none⟩)
 | 11, u, _ => u = .bool qb
 | 12, u, _ => u = .bool T
 | 13, u, _ => u = .bool T
 | _, u, _ => u = .bool T
def prvB (s : List Attr) (f : ZI) (D : BA -> Option (Pr -> Bool)) (op : Int) (name : BA) (words : ZB) (lo hi : Int) (args : List Ex) (p : Pr) : Bool :=
 if op = 6 then (p.pick == -1) && decide (p.args.length = 1) && p.args.all (fun q => prvAt s f D args 0 q && (p.value == !q.value))
 else if op = 7 \/ op = 8 then sevB s f D op args p
 else match (if op = 3 then D name else none) with
  | some g => (p.pick == -1) && decide (p.args.length = 1) && p.args.all (fun q => g q && (p.value == q.value))
  | none => (p.pick == -1) && p.args.isEmpty && (p.value == factV s f op name words lo hi)
theorem prvE_B (s : List Attr) (f : ZI) (D : BA -> Option (Pr -> Bool)) (e : Ex) (p : Pr) : prvE s f D e p = prvB s f D e.op e.name e.words e.lo e.hi e.args p := prvE_eq s f D e p
theorem singB_true {p : Pr} {P : Pr -> Bool} (h : singB p P = true) : p.pick = -1 /\ ∃ q, p.args = [q] /\ P q = true := by
 unfold singB at h
 simp only [Bool.and_eq_true, beq_iff_eq, decide_eq_true_eq] at h
 obtain ⟨q, hq⟩ := len_one h.1.2
 rw [hq] at h
 exact ⟨h.1.1, q, hq, by simpa using h.2⟩
theorem singB_all {p : Pr} {P P' : Pr -> Bool} (h : ∀ q ∈ p.args, P' q = true -> P q = true) (hf : singB p P = false) : singB p P' = false := by
 cases hs : singB p P'
 ·rfl
 obtain ⟨h1, q, h2, h3⟩ := singB_true hs
 have : singB p P = true := by unfold singB; rw [h1, h2]; simp [h q (by rw [h2]; simp) h3]
 rw [this] at hf; cases hf
theorem singB_one {p : Pr} {P P' : Pr -> Bool} {q : Pr} (h : singB p P = true) (hq : p.args = [q]) : singB p P' = P' q := by
 obtain ⟨h1, q', h2, h3⟩ := singB_true h
 rw [hq] at h2
 obtain rfl : q = q' := by simpa using h2
 unfold singB; rw [h1, hq]; simp
theorem verify_calls (s : List Attr) (l : List Cla) (f : ZI) (hc : Chk s l) (hfa : factsAll s f = true) (lv : LossV) (nm : Nat) : ∀ (g m : Nat) (e : Ex) (ev : Value) (p : Pr) (pv : PrV) (w : World), e.size <= m -> m <= 1000000 -> okTree e -> nodesErr s l e = 0 -> expF l g e <= 2000 -> IsLoss w s l f lv nm -> IsEx w e ev -> IsPr w p pv ->
  Calls Tryz.prog 39 #[lv.val, ev, pv.val] w (GivesE (.bool (prvF s l f g e p)) w) := by
 intro g
 induction g with
 | zero => intro m e ev p pv w _ _ _ _ h; simp [expF] at h
 | succ g ihg =>
  intro m
  induction m with
  | zero => intro e ev p pv w h; have := size_pos e; omega
  | succ m ihm =>
   intro e ev p pv w hm hMM hok hnd hex hl he hp
   have hways := node_kinds hc hok hnd
   have hfw := fact_ways hok hnd
   obtain ⟨-, hnda⟩ := nodes_parts hnd
   obtain ⟨hokn, hoka⟩ := okTree_parts hok
   have hexa := expE_arg (D := dOf l g) (e := e) (by rw [<- expF_succ]; exact hex)
   have hexh := expE_hd (D := dOf l g) (e := e) (by rw [<- expF_succ]; exact hex)
   obtain ⟨R, hR⟩ : ∃ R, R = prvF s l f (g + 1) e p := ⟨_, rfl⟩
   rw [<- hR]
   obtain ⟨V, hV⟩ : ∃ V, V = (fun x => (defAt l x).map fun d => prvF s l f g (l.getD d cla0).cond) := ⟨_, rfl⟩
   have hvf : ∀ e q, prvF s l f (g + 1) e q = prvE s f V e q := fun e q => by rw [hV]; rfl
   rw [hvf, prvE_B] at hR
   have HARG := hI (fun (j : Nat) (hj : j < e.args.length) (xv : Value) (q : Pr) (qv : PrV) (W : World) (hW : Ext w W) (hxv : IsEx W e.args[j] xv) (hq : IsPr W q qv) => show Calls Tryz.prog 39 #[lv.val, xv, qv.val] W (GivesE (.bool (prvE s f V e.args[j] q)) W) from by
    rw [<- hvf]
    exact ihm e.args[j] xv q qv W (by have h1 := sizes_take_succ e.args j hj; have h2 := sizes_take_le e.args (j + 1); have h3 := e.size_eq; omega) (by omega) (hoka _ (List.getElem_mem hj)) (hnda j hj) (by rw [expF_succ]; exact hexa j hj) (hl.ext hW) hxv hq)
   have HDEF := hI (fun (h3 : e.op = 3) (d : Nat) (hd : defAt l e.name = some d) (xv : Value) (q : Pr) (qv : PrV) (W : World) (hW : Ext w W) (hxv : IsEx W (l.getD d cla0).cond xv) (hq : IsPr W q qv) => ihg 300 (l.getD d cla0).cond xv q qv W (hc.cond (defAt_atK hd).1).2.2 (by omega) (hc.cond (defAt_atK hd).1).1 (hc.cond (defAt_atK hd).1).2.1 (hexh h3 (by unfold dOf; rw [hd]; rfl)) (hl.ext hW) hxv hq)
   have HFC := hI (fun h5 W (hW : Ext w W) => fact_calls s l f lv nm hc.sch hfa e ev W (hl.ext hW) (he.ext hW) hok h5)
   have HDC := hI (fun W (hW : Ext w W) => definition_calls s l f lv nm e ev W (hl.ext hW) (he.ext hW) (by have := (okTree_words hok).2; omega))
   have HSV := hI (show ∀ W, Ext w W -> Calls Tryz.prog 64 #[lv.val, ev, pv.val] W (GivesE (.bool (sevB s f V e.op e.args p)) W) from fun W hW =>
    several_calls s f V lv e ev p pv W (he.ext hW) (by have h1 := length_le_sizes e.args; have h3 := e.size_eq; omega) (hp.ext hW) fun j hj xv q qv W' _ hW' hxv hq => HARG.out j hj xv q qv W' (hW.trans hW') hxv hq)
   have HSG := hI (fun (h : 0 < e.args.length) (x : ExV) W (hW : Ext w W) (hx : IsEx W e.args[0] x.val) => single_calls lv x p pv (prvE s f V e.args[0]) W (hp.ext hW) fun q qv W' _ hW' hq => HARG.out 0 h x.val q qv W' (hW.trans hW') (hx.ext hW') hq)
   have HSD := hI (fun (h3 : e.op = 3) (d : Nat) (hd : defAt l e.name = some d) (x : ExV) W (hW : Ext w W) (hx : IsEx W (l.getD d cla0).cond x.val) => single_calls lv x p pv (prvF s l f g (l.getD d cla0).cond) W (hp.ext hW) fun q qv W' _ hW' hq => HDEF.out h3 d hd x.val q qv W' (hW.trans hW') (hx.ext hW') hq)
   have HVV := hI (show ∀ d, defAt l e.name = some d -> V e.name = some (prvF s l f g (l.getD d cla0).cond) from fun d hd => by rw [hV]; simp only [hd]; rfl)
   have HVN := hI (show defAt l e.name = none -> V e.name = none from fun hd => by rw [hV]; simp only [hd]; rfl)
   obtain ⟨h1, h2, h3, -, -, h6⟩ := hp.parts
   have HFW := hI hfw
   have hna2 : e.args.length <= 1000000 := by have h1 := length_le_sizes e.args; have h3 := e.size_eq; omega
   obtain ⟨aw, nw, cw, aa, na, ca, rfl, hw, hna, hca, ha, hx⟩ := he.parts
   have HR := hI hR
   clear hc hfa hl hw hca ha ihg ihm hm hnda hoka hexa hexh hokn hok hnd hex he hR hvf hV hfw HARG HDEF hp
   obtain ⟨op, name, words, lo, hi, args⟩ := e
   simp only [Ex.op, Ex.name, Ex.words, Ex.lo, Ex.hi, Ex.args] at *
   unfold prvB at HR
   have HX := hI hx
   have HNA := hI hna
   clear hx hna
   obtain ⟨pb, pk, pa, pn, pc⟩ := pv
   simp only at h1 h2 h3 h6
   have HP1 := hI h1
   have HP2 := hI h2
   have HP3 := hI h3
   have H6 := hI h6
   clear h1 h2 h3 h6
   obtain ⟨sa, sn, sc, bm, fa, fn, fc⟩ := lv
   unfold exV LossV.val PrV.val at *
   simp only at *
   obtain ⟨wa, hwa⟩ : ∃ wa, wa = ((w.alloc (.cells #[.slice sa sn sc, .map (some bm), .slice fa fn fc] 71)).alloc (.cells #[.int .i64 op, .string name, .slice aw nw cw, .int .i64 lo, .int .i64 hi, .slice aa na ca] 26)).alloc (.cells #[.bool pb, .int .i64 pk, .slice pa pn pc] 40) := ⟨_, rfl⟩
   have hxa : Ext w wa := by rw [hwa]; exact (((Ext.refl _).alloc _).alloc _).alloc _
   have hb0 : wa.heap[w.heap.size]? = some (.cells #[.slice sa sn sc, .map (some bm), .slice fa fn fc] 71 (0, 0)) := by rw [hwa]; exact blk_alloc (blk_alloc (alloc_new w _))
   have hb1 : wa.heap[w.heap.size + 1]? = some (.cells #[.int .i64 op, .string name, .slice aw nw cw, .int .i64 lo, .int .i64 hi, .slice aa na ca] 26 (0, 0)) := by rw [hwa]; exact blk_alloc (alloc_atR (by simp))
   have hb2 : wa.heap[w.heap.size + 1 + 1]? = some (.cells #[.bool pb, .int .i64 pk, .slice pa pn pc] 40 (0, 0)) := by rw [hwa]; exact alloc_atR (by simp)
   have HXA := hI hxa
   have HB0 := hI hb0
   have HB1 := hI hb1
   have HB2 := hI hb2
   obtain ⟨f0, f1, f2, f3, f4, f5, ff⟩ := blk6 hb1
   obtain ⟨e0, e1, e2, ef⟩ := blk3 hb0
   obtain ⟨r0, r1, r2, rf⟩ := blk3 hb2
   have hltw := blk_lt hb2
   clear hxa hb0 hb1 hb2
   rcases hways with ⟨h6, hdn⟩ | ⟨rfl, hat, d, hdf⟩ | ⟨rfl, hl1⟩ | h78
   -- a fact
   ·have t6 : (op == 6) = false := by simp [h6.1]
    have t7 : (op == 7) = false := by simp [h6.2.1]
    have t8 : (op == 8) = false := by simp [h6.2.2]
    have HQ := hI (show R = ((pk == -1) && decide (pn = 0) && (pb == factV s f op name words lo hi)) by
     have e1 : p.args.isEmpty = decide (pn = 0) := by rw [HP3.out]; cases p.args <;> simp
     rw [HR.out, if_neg h6.1, if_neg (by omega), <- HP1.out, <- HP2.out]
     by_cases h3 : op = 3
     ·rw [if_pos h3, HVN.out (hdn h3), <- e1]
     rw [if_neg h3, <- e1])
    have HFC2 := hI (HFC.out (HFW.out h6 hdn))
    obtain ⟨B, hB⟩ : ∃ B, B = factV s f op name words lo hi := ⟨_, rfl⟩
    rw [<- hB] at HQ HFC2
    have HDN := hI hdn
    clear h6 hdn hB HFC HFW HSV HSG HSD HVV HVN HR H6 HP1 HP2 HP3
    go_enter Tryz.func39, Tryz.ntmps39
    go_upto_region 1 with fail
    rw [<- hwa]
    clear hwa
    go_wp2_with fail
    refine (HDC.out wa HXA.out).mono ?_
    rintro r w3 ⟨hx3, hq⟩
    rcases hq with ⟨h3, d, v, hd, -⟩ | ⟨-, rfl⟩
    ·rw [HDN.out h3] at hd; cases hd
    have HX3 := hI (HXA.out.trans hx3)
    have HB03 := hI (hx3.blk HB0.out)
    have HB13 := hI (hx3.blk HB1.out)
    have HB23 := hI (hx3.blk HB2.out)
    clear f0 f1 f2 f3 f4 f5 ff e0 e1 e2 ef r0 r1 r2 rf hltw hx3
    unfold exZero
    go_upto_region 8 with fail
    obtain ⟨w4, hw4⟩ : ∃ w4, w4 = w3.alloc (.cells #[.int .i64 0, .string ⟨#[]⟩, .slice none 0 0, .int .i64 0, .int .i64 0, .slice none 0 0] 26) := ⟨_, rfl⟩
    have hx4 : Ext w3 w4 := by rw [hw4]; exact (Ext.refl _).alloc _
    rw [<- hw4]
    clear hw4
    have HX4 := hI (HX3.out.trans hx4)
    obtain ⟨f0, f1, f2, f3, f4, f5, ff⟩ := blk6 (hx4.blk HB13.out)
    obtain ⟨e0, e1, e2, ef⟩ := blk3 (hx4.blk HB03.out)
    obtain ⟨r0, r1, r2, rf⟩ := blk3 (hx4.blk HB23.out)
    have hltw := blk_lt (hx4.blk HB23.out)
    clear hx4 HB03 HB13 HB23
    by_cases hk : pk = -1
    case neg =>
     have t1 : (pk == -1) = false := by simp [hk]
     have HF := hI (show R = false by rw [HQ.out, t1]; rfl)
     clear hk
     go_wp2_with fail
     go_quiet (fail)
     go_wp2_with fail
     go_ret
     exact givesE_bool (by rw [HF.out]) (HX4.out.drewN _)
    subst hk
    by_cases hn : pn = 0
    case neg =>
     have t1 : ((pn : Int) == 0) = false := by simp; omega
     have HF := hI (show R = false by rw [HQ.out]; simp [hn])
     clear hn
     go_wp2_with fail
     go_quiet (fail)
     go_wp2_with fail
     go_ret
     exact givesE_bool (by rw [HF.out]) (HX4.out.drewN _)
    subst hn
    have HF := hI (show R = (pb == B) by rw [HQ.out]; simp)
    obtain ⟨T, hT⟩ : ∃ T, T = (pb == B) := ⟨_, rfl⟩
    have HT := hI hT.symm
    rw [<- hT] at HF
    have HFC3 := hI (fun W (hW : Ext w4 W) => HFC2.out W (HX4.out.trans hW))
    clear hT HFC2 HQ HDC
    go_wp2_with fail
    refine wp_region_growS (n := 75) (m := 18) [17] (GrGS w4) GrE (GrP (ver10 w sa sn sc bm fa fn fc op name aw nw cw lo hi aa na ca pb pa pc B T)) (by kernel_rfl) (by kernel_rfl) (Nat.le_of_ble_eq_true rfl) (fun i => [].contains i) ?sg ?gd ?sk ((Ext.refl w4).drew) ?_ ?_ ?_
    case sg =>
     intro i o hi hs ho
     rcases ltc18 hi with rfl | rfl | rfl | rfl | rfl | rfl | rfl | rfl | rfl | rfl | rfl | rfl | rfl | rfl | rfl | rfl | rfl | rfl <;> (cases ho; first | (exact absurd hs (by decide); done) | exact nofun)
    case gd =>
     intro i o j b hi ho hg
     rcases ltc18 hi with rfl | rfl | rfl | rfl | rfl | rfl | rfl | rfl | rfl | rfl | rfl | rfl | rfl | rfl | rfl | rfl | rfl | rfl <;> (cases ho; first | (cases hg; done) | (cases hg; intro v W h; first | (rw [if_neg (by decide)]; exact h) | (rw [if_pos (by decide)]; intro e; first | (rw [show v = .bool false from h] at e; cases e; done) | (rw [show v = .bool true from h] at e; cases e; done) | (rw [show v = undef from h] at e; cases e; done))))
    case sk =>
     intro i hi hs L vs W hiL hG
     rcases ltc18 hi with rfl | rfl | rfl | rfl | rfl | rfl | rfl | rfl | rfl | rfl | rfl | rfl | rfl | rfl | rfl | rfl | rfl | rfl <;> first | (exact absurd hs (by decide); done) | exact ⟨Ext.refl W, hG, rfl⟩
    ·intro i k v W W' hi hk hne hout h hE
     have hE : Ext W W' := hE
     have hi' := ltc18 hi
     clear hi hk hne hout
     rcases hi' with rfl | rfl | rfl | rfl | rfl | rfl | rfl | rfl | rfl | rfl | rfl | rfl | rfl | rfl | rfl | rfl | rfl | rfl
     ·exact h
     ·exact h
     ·exact h
     ·exact h
     ·exact h
     ·exact h
     ·exact h
     ·exact h
     ·exact h
     ·exact h
     ·exact h
     ·exact h
     ·exact h
     ·exact h
     ·exact h
     ·exact h
     ·exact h
     exact h
    ·intro q op hq hsq ho L vs W hqL hcL hW hd ρ hρ
     have hq' := ltc18 hq
     clear hq
     have o5 : ρ (.tmp 5) = .pointer (some ⟨w.heap.size + 1 + 1, 0, none⟩) := hρ.out 5 rfl
     have i0 := hρ.i 0 58
     have i1 := hρ.i 1 59
     have i2 := hρ.i 2 60
     have i4 := hρ.i 4 62
     have i5 := hρ.i 5 63
     have i6 := hρ.i 6 64
     have i3 := hρ.i 3 61
     have i7 := hρ.i 7 65
     have i8 := hρ.i 8 66
     have i10 := hρ.i 10 68
     have o3 : ρ (.tmp 3) = .pointer (some ⟨w.heap.size, 0, none⟩) := hρ.out 3 rfl
     have o4 : ρ (.tmp 4) = .pointer (some ⟨w.heap.size + 1, 0, none⟩) := hρ.out 4 rfl
     have i12 := hρ.i 12 70
     have i13 := hρ.i 13 71
     have i11 := hρ.i 11 69
     have i14 := hρ.i 14 72
     have i9 := hρ.i 9 67
     have i15 := hρ.i 15 73
     have i16 := hρ.i 16 74
     have hc := hρ.const
     have hfn := hρ.func
     clear hρ
     have HG := hI hW
     have HW := hI (show Ext w4 W from hW)
     have HQL := hI hqL
     clear hW hqL hcL
     rcases hq' with rfl | rfl | rfl | rfl | rfl | rfl | rfl | rfl | rfl | rfl | rfl | rfl | rfl | rfl | rfl | rfl | rfl | rfl
     ·clear hsq
      cases ho
      clear hd
      unfold GivesOp
      go_simp
      exact ⟨Ext.refl _, HW.out, rfl⟩
     ·clear hsq
      cases ho
      have h0 : vs 0 = _ := hd ⟨0, .data⟩ (by simp) rfl
      rw [h0] at i0
      clear hd
      have g1 := HW.out.cell r1
      unfold GivesOp
      go_simp
      exact ⟨Ext.refl _, HW.out, rfl⟩
     ·clear hsq
      cases ho
      have h1 : vs 1 = _ := hd ⟨1, .data⟩ (by simp) rfl
      rw [h1] at i1
      clear hd
      unfold GivesOp
      go_simp
      exact ⟨Ext.refl _, HW.out, rfl⟩
     ·clear hsq
      cases ho
      have h2 : vs 2 = _ := hd ⟨2, .data⟩ (by simp) rfl
      rw [h2] at i2
      clear hd
      unfold GivesOp
      go_simp
      exact ⟨Ext.refl _, HW.out, rfl⟩
     ·clear hsq
      cases ho
      clear hd
      unfold GivesOp
      go_simp
      exact ⟨Ext.refl _, HW.out, rfl⟩
     ·clear hsq
      cases ho
      have h4 : vs 4 = _ := hd ⟨4, .data⟩ (by simp) rfl
      rw [h4] at i4
      clear hd
      have g2 := HW.out.cell r2
      unfold GivesOp
      go_simp
      exact ⟨Ext.refl _, HW.out, rfl⟩
     ·clear hsq
      cases ho
      have h5 : vs 5 = _ := hd ⟨5, .data⟩ (by simp) rfl
      rw [h5] at i5
      clear hd
      unfold GivesOp
      go_simp
      exact ⟨Ext.refl _, HW.out, rfl⟩
     ·clear hsq
      cases ho
      have h6 : vs 6 = _ := hd ⟨6, .data⟩ (by simp) rfl
      rw [h6] at i6
      clear hd
      unfold GivesOp
      go_simp
      exact ⟨Ext.refl _, HW.out, rfl⟩
     ·clear hsq
      cases ho
      have h3 : vs 3 = _ := hd ⟨3, .data⟩ (by simp) rfl
      rw [h3] at i3
      have h7 : vs 7 = _ := hd ⟨7, .data⟩ (by simp) rfl
      rw [h7] at i7
      clear hd
      unfold GivesOp
      go_simp
      exact ⟨Ext.refl _, HW.out, rfl⟩
     ·clear hsq
      cases ho
      have h8 : vs 8 = _ := hd ⟨8, .data⟩ (by simp) rfl
      rw [h8] at i8
      clear hd
      unfold GivesOp
      go_simp
      exact ⟨Ext.refl _, HW.out, rfl⟩
     ·clear hsq
      cases ho
      clear hd
      unfold GivesOp
      go_simp
      exact ⟨Ext.refl _, HW.out, rfl⟩
     ·clear hsq
      cases ho
      have h10 : vs 10 = _ := hd ⟨10, .data⟩ (by simp) rfl
      rw [h10] at i10
      clear hd
      have g0 := HW.out.cell r0
      unfold GivesOp
      go_simp
      exact ⟨Ext.refl _, HW.out, rfl⟩
     ·clear hsq
      cases ho
      clear hd
      have g0 := HW.out.cell e0
      have g1 := HW.out.cell e1
      have g2 := HW.out.cell e2
      unfold GivesOp
      go_simp
      exact ⟨Ext.refl _, HW.out, rfl⟩
     ·clear hsq
      cases ho
      clear hd
      have g0 := HW.out.cell f0
      have g1 := HW.out.cell f1
      have g2 := HW.out.cell f2
      have g3 := HW.out.cell f3
      have g4 := HW.out.cell f4
      have g5 := HW.out.cell f5
      unfold GivesOp
      go_simp
      exact ⟨Ext.refl _, HW.out, rfl⟩
     ·clear hsq
      cases ho
      have h12 : vs 12 = _ := hd ⟨12, .data⟩ (by simp) rfl
      rw [h12] at i12
      have h13 : vs 13 = _ := hd ⟨13, .data⟩ (by simp) rfl
      rw [h13] at i13
      clear hd
      unfold GivesOp
      go_simp
      refine (HFC3.out W HW.out).mono ?_
      rintro e5 w5 ⟨rfl, hx5⟩
      exact ⟨_, rfl, hx5, HW.out.trans hx5, rfl⟩
     ·clear hsq
      cases ho
      have h11 : vs 11 = _ := hd ⟨11, .data⟩ (by simp) rfl
      rw [h11] at i11
      have h14 : vs 14 = _ := hd ⟨14, .data⟩ (by simp) rfl
      rw [h14] at i14
      clear hd
      have ht := HT.out
      unfold GivesOp
      go_simp
      exact ⟨Ext.refl _, HW.out, rfl⟩
     ·clear hsq
      cases ho
      have h9 : vs 9 = _ := hd ⟨9, .data⟩ (by simp) rfl
      rw [h9] at i9
      have h15 : vs 15 = _ := hd ⟨15, .data⟩ (by simp) rfl
      rw [h15] at i15
      clear hd
      unfold GivesOp
      go_simp
      exact ⟨Ext.refl _, HW.out, rfl⟩
     clear hsq
     cases ho
     have h16 : vs 16 = _ := hd ⟨16, .data⟩ (by simp) rfl
     rw [h16] at i16
     clear hd
     unfold GivesOp
     go_simp
     exact ⟨Ext.refl _, HW.out, rfl⟩
    intro L vs W hLm hW hR
    rw [if_pos (by decide +kernel)]
    have h17 : vs 17 = .bool T := hR 17 (by simp) (by omega)
    simp only [acts, dstAt, List.range, List.range.loop, List.foldl_cons, List.foldl_nil, h17]
    go_simp
    have hW2 : Ext w4 W := hW
    clear hR hW hLm h17
    go_wp2_with fail
    go_ret
    exact givesE_bool (by rw [HF.out]) (HX4.out.trans hW2)
   -- a definition
   ·have HSB := hI (show R = singB p (fun q => prvF s l f g (l.getD d cla0).cond q && (p.value == q.value)) by
     rw [HR.out, if_neg (by decide), if_neg (by decide), if_pos rfl, HVV.out d hdf]; rfl)
    have HSG2 := hI (HSD.out rfl d hdf)
    obtain ⟨B, hB⟩ : ∃ B, B = singB p (prvF s l f g (l.getD d cla0).cond) := ⟨_, rfl⟩
    rw [<- hB] at HSG2
    have HBB := hI hB
    have HDA := hI hdf
    clear hat hdf hB HFC HFW HSV HSG HSD HVV HVN HR
    go_enter Tryz.func39, Tryz.ntmps39
    go_upto_region 1 with fail
    rw [<- hwa]
    clear hwa
    go_wp2_with fail
    refine (HDC.out wa HXA.out).mono ?_
    rintro r w3 ⟨hx3, hq⟩
    rcases hq with ⟨-, d', v, hd, rfl, hv⟩ | ⟨hd, -⟩
    case inr =>
     rcases hd with hd | hd
     ·exact absurd rfl hd
     rw [HDA.out] at hd; cases hd
    rw [HDA.out] at hd
    obtain rfl : d = d' := by simpa using hd
    have HX3 := hI (HXA.out.trans hx3)
    have HEX := hI hv
    have HB03 := hI (hx3.blk HB0.out)
    have HB23 := hI (hx3.blk HB2.out)
    clear f0 f1 f2 f3 f4 f5 ff e0 e1 e2 ef r0 r1 r2 rf hltw hx3 hv hd
    unfold ExV.val exV at *
    obtain ⟨v0, v1, v2, v3, v4, v5, v6, v7, v8, v9⟩ := v
    simp only at *
    go_upto_region 8 with fail
    obtain ⟨w4, hw4⟩ : ∃ w4, w4 = w3.alloc (.cells #[.int .i64 v0, .string v1, .slice v2 v3 v4, .int .i64 v5, .int .i64 v6, .slice v7 v8 v9] 26) := ⟨_, rfl⟩
    obtain ⟨y, hy⟩ : ∃ y, y = w3.heap.size := ⟨_, rfl⟩
    have hx4 : Ext w3 w4 := by rw [hw4]; exact (Ext.refl _).alloc _
    have hby : w4.heap[y]? = some (.cells #[.int .i64 v0, .string v1, .slice v2 v3 v4, .int .i64 v5, .int .i64 v6, .slice v7 v8 v9] 26 (0, 0)) := by rw [hw4, hy]; exact alloc_new w3 _
    rw [<- hw4, <- hy]
    clear hw4 hy
    have HX4 := hI (HX3.out.trans hx4)
    obtain ⟨f0, f1, f2, f3, f4, f5, ff⟩ := blk6 hby
    obtain ⟨e0, e1, e2, ef⟩ := blk3 (hx4.blk HB03.out)
    obtain ⟨r0, r1, r2, rf⟩ := blk3 (hx4.blk HB23.out)
    have HSG3 := hI (fun W (hW : Ext w4 W) => HSG2.out ⟨v0, v1, v2, v3, v4, v5, v6, v7, v8, v9⟩ W (HX4.out.trans hW) (HEX.out.ext (hx4.trans hW)))
    simp only at HSG3
    clear hx4 HB03 HB23 HSG2 hby
    cases B
    ·have HF := hI (show R = false by
      rw [HSB.out]
      exact singB_all (fun q _ h => by simp only [Bool.and_eq_true] at h; exact h.1) HBB.out.symm)
     go_wp2_with fail
     refine wp_region_growS (n := 75) (m := 15) [14] (GrGS w4) GrE (GrP (ver9F w sa sn sc bm fa fn fc y v0 v1 v2 v3 v4 v5 v6 v7 v8 v9 pb pk pa pn pc)) (by kernel_rfl) (by kernel_rfl) (Nat.le_of_ble_eq_true rfl) (fun i => [5, 6, 7, 8, 9, 10, 11, 12].contains i) ?sg ?gd ?sk ((Ext.refl w4).drew) ?_ ?_ ?_
     case sg =>
      intro i o hi hs ho
      rcases ltc15 hi with rfl | rfl | rfl | rfl | rfl | rfl | rfl | rfl | rfl | rfl | rfl | rfl | rfl | rfl | rfl <;> (cases ho; first | (exact absurd hs (by decide); done) | exact nofun)
     case gd =>
      intro i o j b hi ho hg
      rcases ltc15 hi with rfl | rfl | rfl | rfl | rfl | rfl | rfl | rfl | rfl | rfl | rfl | rfl | rfl | rfl | rfl <;> (cases ho; first | (cases hg; done) | (cases hg; intro v W h; first | (rw [if_neg (by decide)]; exact h) | (rw [if_pos (by decide)]; intro e; first | (rw [show v = .bool false from h] at e; cases e; done) | (rw [show v = .bool true from h] at e; cases e; done) | (rw [show v = undef from h] at e; cases e; done))))
     case sk =>
      intro i hi hs L vs W hiL hG
      rcases ltc15 hi with rfl | rfl | rfl | rfl | rfl | rfl | rfl | rfl | rfl | rfl | rfl | rfl | rfl | rfl | rfl <;> first | (exact absurd hs (by decide); done) | exact ⟨Ext.refl W, hG, rfl⟩
     ·intro i k v W W' hi hk hne hout h hE
      have hE : Ext W W' := hE
      have hi' := ltc15 hi
      clear hi hk hne hout
      rcases hi' with rfl | rfl | rfl | rfl | rfl | rfl | rfl | rfl | rfl | rfl | rfl | rfl | rfl | rfl | rfl
      ·exact h
      ·exact h
      ·exact h
      ·exact h
      ·exact h
      ·exact h
      ·exact h
      ·exact h
      ·exact h
      ·exact h
      ·exact h
      ·exact h
      ·exact h
      ·exact h
      exact h
     ·intro q op hq hsq ho L vs W hqL hcL hW hd ρ hρ
      have hq' := ltc15 hq
      clear hq
      have o3 : ρ (.tmp 3) = .pointer (some ⟨w.heap.size, 0, none⟩) := hρ.out 3 rfl
      have o7 : ρ (.tmp 7) = .pointer (some ⟨y, 0, none⟩) := hρ.out 7 rfl
      have o5 : ρ (.tmp 5) = .pointer (some ⟨w.heap.size + 1 + 1, 0, none⟩) := hρ.out 5 rfl
      have i0 := hρ.i 0 44
      have i1 := hρ.i 1 45
      have i2 := hρ.i 2 46
      have i3 := hρ.i 3 47
      have i5 := hρ.i 5 49
      have i7 := hρ.i 7 51
      have i8 := hρ.i 8 52
      have i9 := hρ.i 9 53
      have i10 := hρ.i 10 54
      have i6 := hρ.i 6 50
      have i11 := hρ.i 11 55
      have i4 := hρ.i 4 48
      have i12 := hρ.i 12 56
      have i13 := hρ.i 13 57
      have hc := hρ.const
      have hfn := hρ.func
      clear hρ
      have HG := hI hW
      have HW := hI (show Ext w4 W from hW)
      have HQL := hI hqL
      clear hW hqL hcL
      rcases hq' with rfl | rfl | rfl | rfl | rfl | rfl | rfl | rfl | rfl | rfl | rfl | rfl | rfl | rfl | rfl
      ·clear hsq
       cases ho
       clear hd
       have g0 := HW.out.cell e0
       have g1 := HW.out.cell e1
       have g2 := HW.out.cell e2
       unfold GivesOp
       go_simp
       exact ⟨Ext.refl _, HW.out, rfl⟩
      ·clear hsq
       cases ho
       clear hd
       have g0 := HW.out.cell f0
       have g1 := HW.out.cell f1
       have g2 := HW.out.cell f2
       have g3 := HW.out.cell f3
       have g4 := HW.out.cell f4
       have g5 := HW.out.cell f5
       unfold GivesOp
       go_simp
       exact ⟨Ext.refl _, HW.out, rfl⟩
      ·clear hsq
       cases ho
       clear hd
       have g0 := HW.out.cell r0
       have g1 := HW.out.cell r1
       have g2 := HW.out.cell r2
       unfold GivesOp
       go_simp
       exact ⟨Ext.refl _, HW.out, rfl⟩
      ·clear hsq
       cases ho
       have h0 : vs 0 = _ := hd ⟨0, .data⟩ (by simp) rfl
       rw [h0] at i0
       have h1 : vs 1 = _ := hd ⟨1, .data⟩ (by simp) rfl
       rw [h1] at i1
       have h2 : vs 2 = _ := hd ⟨2, .data⟩ (by simp) rfl
       rw [h2] at i2
       clear hd
       unfold GivesOp
       go_simp
       refine (HSG3.out W HW.out).mono ?_
       rintro e5 w5 ⟨rfl, hx5⟩
       exact ⟨_, rfl, hx5, HW.out.trans hx5, rfl⟩
      ·clear hsq
       cases ho
       have h3 : vs 3 = _ := hd ⟨3, .data⟩ (by simp) rfl
       rw [h3] at i3
       clear hd
       unfold GivesOp
       go_simp
       exact ⟨Ext.refl _, HW.out, rfl⟩
      ·exact absurd hsq (by decide)
      ·exact absurd hsq (by decide)
      ·exact absurd hsq (by decide)
      ·exact absurd hsq (by decide)
      ·exact absurd hsq (by decide)
      ·exact absurd hsq (by decide)
      ·exact absurd hsq (by decide)
      ·exact absurd hsq (by decide)
      ·clear hsq
       cases ho
       have h4 : vs 4 = _ := hd ⟨4, .data⟩ (by simp) rfl
       rw [h4] at i4
       have h12 : vs 12 = _ := hd ⟨12, .data⟩ (by simp) rfl
       rw [h12] at i12
       clear hd
       unfold GivesOp
       go_simp
       exact ⟨Ext.refl _, HW.out, rfl⟩
      clear hsq
      cases ho
      have h13 : vs 13 = _ := hd ⟨13, .data⟩ (by simp) rfl
      rw [h13] at i13
      clear hd
      unfold GivesOp
      go_simp
      exact ⟨Ext.refl _, HW.out, rfl⟩
     intro L vs W hLm hW hR
     rw [if_pos (by decide +kernel)]
     have h14 : vs 14 = .bool false := hR 14 (by simp) (by omega)
     simp only [acts, dstAt, List.range, List.range.loop, List.foldl_cons, List.foldl_nil, h14]
     go_simp
     have hW2 : Ext w4 W := hW
     clear hR hW hLm h14
     go_wp2_with fail
     go_ret
     exact givesE_bool (by rw [HF.out]) (HX4.out.trans hW2)
    obtain ⟨-, q, hq1, hq2⟩ := singB_true HBB.out.symm
    have hn1 : pn = 1 := by rw [HP3.out, hq1]; rfl
    obtain ⟨b, off, qv, rfl, hqv, c0, c1, c2⟩ := H6.out 0 (by rw [hq1]; simp)
    simp only [Nat.zero_mul, Nat.add_zero] at c0 c1 c2
    subst hn1
    replace c0 := HX4.out.cell c0
    replace c1 := HX4.out.cell c1
    replace c2 := HX4.out.cell c2
    have HQV := hI (show qv.value = q.value by have := hqv.parts.1; simpa [hq1] using this)
    obtain ⟨qb, qk, qa, qn, qc⟩ := qv
    simp only at c0 c1 c2 HQV
    have HF0 := hI (show R = (pb == qb) by rw [HSB.out, singB_one HBB.out.symm hq1, hq2, Bool.true_and, <- HP1.out, <- HQV.out])
    clear hq1 hq2 hqv
    obtain ⟨T, hT⟩ : ∃ T, T = (pb == qb) := ⟨_, rfl⟩
    have HT := hI hT.symm
    rw [<- hT] at HF0
    clear hT
    go_wp2_with fail
    refine wp_region_growS (n := 75) (m := 15) [14] (GrGS w4) GrE (GrP (ver9T w sa sn sc bm fa fn fc y v0 v1 v2 v3 v4 v5 v6 v7 v8 v9 pb pk b off pc T qb)) (by kernel_rfl) (by kernel_rfl) (Nat.le_of_ble_eq_true rfl) (fun i => [].contains i) ?sg ?gd ?sk ((Ext.refl w4).drew) ?_ ?_ ?_
    case sg =>
     intro i o hi hs ho
     rcases ltc15 hi with rfl | rfl | rfl | rfl | rfl | rfl | rfl | rfl | rfl | rfl | rfl | rfl | rfl | rfl | rfl <;> (cases ho; first | (exact absurd hs (by decide); done) | exact nofun)
    case gd =>
     intro i o j b hi ho hg
     rcases ltc15 hi with rfl | rfl | rfl | rfl | rfl | rfl | rfl | rfl | rfl | rfl | rfl | rfl | rfl | rfl | rfl <;> (cases ho; first | (cases hg; done) | (cases hg; intro v W h; first | (rw [if_neg (by decide)]; exact h) | (rw [if_pos (by decide)]; intro e; first | (rw [show v = .bool false from h] at e; cases e; done) | (rw [show v = .bool true from h] at e; cases e; done) | (rw [show v = undef from h] at e; cases e; done))))
    case sk =>
     intro i hi hs L vs W hiL hG
     rcases ltc15 hi with rfl | rfl | rfl | rfl | rfl | rfl | rfl | rfl | rfl | rfl | rfl | rfl | rfl | rfl | rfl <;> first | (exact absurd hs (by decide); done) | exact ⟨Ext.refl W, hG, rfl⟩
    ·intro i k v W W' hi hk hne hout h hE
     have hE : Ext W W' := hE
     have hi' := ltc15 hi
     clear hi hk hne hout
     rcases hi' with rfl | rfl | rfl | rfl | rfl | rfl | rfl | rfl | rfl | rfl | rfl | rfl | rfl | rfl | rfl
     ·exact h
     ·exact h
     ·exact h
     ·exact h
     ·exact h
     ·exact h
     ·exact h
     ·exact h
     ·exact h
     ·exact h
     ·exact h
     ·exact h
     ·exact h
     ·exact h
     exact h
    ·intro q op hq hsq ho L vs W hqL hcL hW hd ρ hρ
     have hq' := ltc15 hq
     clear hq
     have o3 : ρ (.tmp 3) = .pointer (some ⟨w.heap.size, 0, none⟩) := hρ.out 3 rfl
     have o7 : ρ (.tmp 7) = .pointer (some ⟨y, 0, none⟩) := hρ.out 7 rfl
     have o5 : ρ (.tmp 5) = .pointer (some ⟨w.heap.size + 1 + 1, 0, none⟩) := hρ.out 5 rfl
     have i0 := hρ.i 0 44
     have i1 := hρ.i 1 45
     have i2 := hρ.i 2 46
     have i3 := hρ.i 3 47
     have i5 := hρ.i 5 49
     have i7 := hρ.i 7 51
     have i8 := hρ.i 8 52
     have i9 := hρ.i 9 53
     have i10 := hρ.i 10 54
     have i6 := hρ.i 6 50
     have i11 := hρ.i 11 55
     have i4 := hρ.i 4 48
     have i12 := hρ.i 12 56
     have i13 := hρ.i 13 57
     have hc := hρ.const
     have hfn := hρ.func
     clear hρ
     have HG := hI hW
     have HW := hI (show Ext w4 W from hW)
     have HQL := hI hqL
     clear hW hqL hcL
     rcases hq' with rfl | rfl | rfl | rfl | rfl | rfl | rfl | rfl | rfl | rfl | rfl | rfl | rfl | rfl | rfl
     ·clear hsq
      cases ho
      clear hd
      have g0 := HW.out.cell e0
      have g1 := HW.out.cell e1
      have g2 := HW.out.cell e2
      unfold GivesOp
      go_simp
      exact ⟨Ext.refl _, HW.out, rfl⟩
     ·clear hsq
      cases ho
      clear hd
      have g0 := HW.out.cell f0
      have g1 := HW.out.cell f1
      have g2 := HW.out.cell f2
      have g3 := HW.out.cell f3
      have g4 := HW.out.cell f4
      have g5 := HW.out.cell f5
      unfold GivesOp
      go_simp
      exact ⟨Ext.refl _, HW.out, rfl⟩
     ·clear hsq
      cases ho
      clear hd
      have g0 := HW.out.cell r0
      have g1 := HW.out.cell r1
      have g2 := HW.out.cell r2
      unfold GivesOp
      go_simp
      exact ⟨Ext.refl _, HW.out, rfl⟩
     ·clear hsq
      cases ho
      have h0 : vs 0 = _ := hd ⟨0, .data⟩ (by simp) rfl
      rw [h0] at i0
      have h1 : vs 1 = _ := hd ⟨1, .data⟩ (by simp) rfl
      rw [h1] at i1
      have h2 : vs 2 = _ := hd ⟨2, .data⟩ (by simp) rfl
      rw [h2] at i2
      clear hd
      unfold GivesOp
      go_simp
      refine (HSG3.out W HW.out).mono ?_
      rintro e5 w5 ⟨rfl, hx5⟩
      exact ⟨_, rfl, hx5, HW.out.trans hx5, rfl⟩
     ·clear hsq
      cases ho
      have h3 : vs 3 = _ := hd ⟨3, .data⟩ (by simp) rfl
      rw [h3] at i3
      clear hd
      unfold GivesOp
      go_simp
      exact ⟨Ext.refl _, HW.out, rfl⟩
     ·clear hsq
      cases ho
      clear hd
      unfold GivesOp
      go_simp
      exact ⟨Ext.refl _, HW.out, rfl⟩
     ·clear hsq
      cases ho
      have h5 : vs 5 = _ := hd ⟨5, .data⟩ (by simp) rfl
      rw [h5] at i5
      clear hd
      have g0 := HW.out.cell r0
      unfold GivesOp
      go_simp
      exact ⟨Ext.refl _, HW.out, rfl⟩
     ·clear hsq
      cases ho
      clear hd
      unfold GivesOp
      go_simp
      exact ⟨Ext.refl _, HW.out, rfl⟩
     ·clear hsq
      cases ho
      have h7 : vs 7 = _ := hd ⟨7, .data⟩ (by simp) rfl
      rw [h7] at i7
      clear hd
      have g2 := HW.out.cell r2
      unfold GivesOp
      go_simp
      exact ⟨Ext.refl _, HW.out, rfl⟩
     ·clear hsq
      cases ho
      have h8 : vs 8 = _ := hd ⟨8, .data⟩ (by simp) rfl
      rw [h8] at i8
      clear hd
      unfold GivesOp
      go_simp
      exact ⟨Ext.refl _, HW.out, rfl⟩
     ·clear hsq
      cases ho
      have h9 : vs 9 = _ := hd ⟨9, .data⟩ (by simp) rfl
      rw [h9] at i9
      clear hd
      unfold GivesOp
      go_simp
      exact ⟨Ext.refl _, HW.out, rfl⟩
     ·clear hsq
      cases ho
      have h10 : vs 10 = _ := hd ⟨10, .data⟩ (by simp) rfl
      rw [h10] at i10
      clear hd
      have g0 := HW.out.cell c0
      unfold GivesOp
      go_simp
      exact ⟨Ext.refl _, HW.out, rfl⟩
     ·clear hsq
      cases ho
      have h6 : vs 6 = _ := hd ⟨6, .data⟩ (by simp) rfl
      rw [h6] at i6
      have h11 : vs 11 = _ := hd ⟨11, .data⟩ (by simp) rfl
      rw [h11] at i11
      clear hd
      have ht := HT.out
      unfold GivesOp
      go_simp
      exact ⟨Ext.refl _, HW.out, rfl⟩
     ·clear hsq
      cases ho
      have h4 : vs 4 = _ := hd ⟨4, .data⟩ (by simp) rfl
      rw [h4] at i4
      have h12 : vs 12 = _ := hd ⟨12, .data⟩ (by simp) rfl
      rw [h12] at i12
      clear hd
      unfold GivesOp
      go_simp
      exact ⟨Ext.refl _, HW.out, rfl⟩
     clear hsq
     cases ho
     have h13 : vs 13 = _ := hd ⟨13, .data⟩ (by simp) rfl
     rw [h13] at i13
     clear hd
     unfold GivesOp
     go_simp
     exact ⟨Ext.refl _, HW.out, rfl⟩
    intro L vs W hLm hW hR
    rw [if_pos (by decide +kernel)]
    have h14 : vs 14 = .bool T := hR 14 (by simp) (by omega)
    simp only [acts, dstAt, List.range, List.range.loop, List.foldl_cons, List.foldl_nil, h14]
    go_simp
    have hW2 : Ext w4 W := hW
    clear hR hW hLm h14
    go_wp2_with fail
    go_ret
    exact givesE_bool (by rw [HF0.out]) (HX4.out.trans hW2)
   -- not
   ·have hj : 0 < args.length := by omega
    have HSB := hI (show R = singB p (fun q => prvE s f V args[0] q && (p.value == !q.value)) by
     rw [HR.out, if_pos rfl]; unfold singB; simp only [prvAt_get, List.getElem?_eq_getElem hj, Option.map_some, Option.getD_some])
    have hnp : 0 < na := by have := HNA.out; omega
    obtain ⟨xb, xo, rfl, aw1, nw1, cw1, aa1, na1, ca1, g0, g1, g2, g3, g4, g5, g6⟩ := ExsD.at args _ (ExsD.ext HXA.out args _ HX.out) 0 hj
    simp only [Nat.zero_mul, Nat.add_zero] at g0 g1 g2 g3 g4 g5
    have G6 := hI g6
    have HSG3 := hI (fun W (hW : Ext wa W) => HSG.out hj ⟨args[0].op, args[0].name, aw1, nw1, cw1, args[0].lo, args[0].hi, aa1, na1, ca1⟩ W (HXA.out.trans hW) (G6.out.ext hW))
    unfold ExV.val exV at HSG3
    simp only at HSG3
    obtain ⟨B, hB⟩ : ∃ B, B = singB p (prvE s f V args[0]) := ⟨_, rfl⟩
    rw [<- hB] at HSG3
    have HBB := hI hB
    obtain ⟨x0, hx0⟩ : ∃ x0, x0 = args[0].op := ⟨_, rfl⟩
    obtain ⟨x1, hx1⟩ : ∃ x1, x1 = args[0].name := ⟨_, rfl⟩
    obtain ⟨x5, hx5⟩ : ∃ x5, x5 = args[0].lo := ⟨_, rfl⟩
    obtain ⟨x6, hx6⟩ : ∃ x6, x6 = args[0].hi := ⟨_, rfl⟩
    rw [<- hx0] at g0 HSG3
    rw [<- hx1] at g1 HSG3
    rw [<- hx5] at g3 HSG3
    rw [<- hx6] at g4 HSG3
    clear hl1 hB g6 HFC HFW HSV HSG HSD HVV HVN HR HDC hx0 hx1 hx5 hx6
    go_enter Tryz.func39, Tryz.ntmps39
    go_upto_region 1 with fail
    rw [<- hwa]
    clear hwa
    cases B
    ·have HF := hI (show R = false by
      rw [HSB.out]
      exact singB_all (fun q _ h => by simp only [Bool.and_eq_true] at h; exact h.1) HBB.out.symm)
     go_wp2_with fail
     refine wp_region_growS (n := 75) (m := 18) [17] (GrGS wa) GrE (GrP (ver3F w sa sn sc bm fa fn fc name aw nw cw lo hi na ca xb xo x0 x1 aw1 nw1 cw1 x5 x6 aa1 na1 ca1 pb pk pa pn pc)) (by kernel_rfl) (by kernel_rfl) (Nat.le_of_ble_eq_true rfl) (fun i => [8, 9, 10, 11, 12, 13, 14, 15].contains i) ?sg ?gd ?sk ((Ext.refl wa).drew) ?_ ?_ ?_
     case sg =>
      intro i o hi hs ho
      rcases ltc18 hi with rfl | rfl | rfl | rfl | rfl | rfl | rfl | rfl | rfl | rfl | rfl | rfl | rfl | rfl | rfl | rfl | rfl | rfl <;> (cases ho; first | (exact absurd hs (by decide); done) | exact nofun)
     case gd =>
      intro i o j b hi ho hg
      rcases ltc18 hi with rfl | rfl | rfl | rfl | rfl | rfl | rfl | rfl | rfl | rfl | rfl | rfl | rfl | rfl | rfl | rfl | rfl | rfl <;> (cases ho; first | (cases hg; done) | (cases hg; intro v W h; first | (rw [if_neg (by decide)]; exact h) | (rw [if_pos (by decide)]; intro e; first | (rw [show v = .bool false from h] at e; cases e; done) | (rw [show v = .bool true from h] at e; cases e; done) | (rw [show v = undef from h] at e; cases e; done))))
     case sk =>
      intro i hi hs L vs W hiL hG
      rcases ltc18 hi with rfl | rfl | rfl | rfl | rfl | rfl | rfl | rfl | rfl | rfl | rfl | rfl | rfl | rfl | rfl | rfl | rfl | rfl <;> first | (exact absurd hs (by decide); done) | exact ⟨Ext.refl W, hG, rfl⟩
     ·intro i k v W W' hi hk hne hout h hE
      have hE : Ext W W' := hE
      have hi' := ltc18 hi
      clear hi hk hne hout
      rcases hi' with rfl | rfl | rfl | rfl | rfl | rfl | rfl | rfl | rfl | rfl | rfl | rfl | rfl | rfl | rfl | rfl | rfl | rfl
      ·exact h
      ·exact h
      ·exact h
      ·exact h
      ·exact h
      ·exact h
      ·exact h
      ·exact h
      ·exact h
      ·exact h
      ·exact h
      ·exact h
      ·exact h
      ·exact h
      ·exact h
      ·exact h
      ·exact h
      exact h
     ·intro q op hq hsq ho L vs W hqL hcL hW hd ρ hρ
      have hq' := ltc18 hq
      clear hq
      have o3 : ρ (.tmp 3) = .pointer (some ⟨w.heap.size, 0, none⟩) := hρ.out 3 rfl
      have o4 : ρ (.tmp 4) = .pointer (some ⟨w.heap.size + 1, 0, none⟩) := hρ.out 4 rfl
      have i1 := hρ.i 1 14
      have i2 := hρ.i 2 15
      have i3 := hρ.i 3 16
      have o5 : ρ (.tmp 5) = .pointer (some ⟨w.heap.size + 1 + 1, 0, none⟩) := hρ.out 5 rfl
      have i0 := hρ.i 0 13
      have i4 := hρ.i 4 17
      have i5 := hρ.i 5 18
      have i6 := hρ.i 6 19
      have i8 := hρ.i 8 21
      have i10 := hρ.i 10 23
      have i11 := hρ.i 11 24
      have i12 := hρ.i 12 25
      have i13 := hρ.i 13 26
      have i9 := hρ.i 9 22
      have i14 := hρ.i 14 27
      have i7 := hρ.i 7 20
      have i15 := hρ.i 15 28
      have i16 := hρ.i 16 29
      have hc := hρ.const
      have hfn := hρ.func
      clear hρ
      have HG := hI hW
      have HW := hI (show Ext wa W from hW)
      have HQL := hI hqL
      clear hW hqL hcL
      rcases hq' with rfl | rfl | rfl | rfl | rfl | rfl | rfl | rfl | rfl | rfl | rfl | rfl | rfl | rfl | rfl | rfl | rfl | rfl
      ·clear hsq
       cases ho
       clear hd
       have g0 := HW.out.cell e0
       have g1 := HW.out.cell e1
       have g2 := HW.out.cell e2
       unfold GivesOp
       go_simp
       exact ⟨Ext.refl _, HW.out, rfl⟩
      ·clear hsq
       cases ho
       clear hd
       unfold GivesOp
       go_simp
       exact ⟨Ext.refl _, HW.out, rfl⟩
      ·clear hsq
       cases ho
       have h1 : vs 1 = _ := hd ⟨1, .data⟩ (by simp) rfl
       rw [h1] at i1
       clear hd
       have g5 := HW.out.cell f5
       unfold GivesOp
       go_simp
       exact ⟨Ext.refl _, HW.out, rfl⟩
      ·clear hsq
       cases ho
       have h2 : vs 2 = _ := hd ⟨2, .data⟩ (by simp) rfl
       rw [h2] at i2
       clear hd
       unfold GivesOp
       go_simp
       exact ⟨Ext.refl _, HW.out, rfl⟩
      ·clear hsq
       cases ho
       have h3 : vs 3 = _ := hd ⟨3, .data⟩ (by simp) rfl
       rw [h3] at i3
       clear hd
       have g0 := HW.out.cell g0
       have g1 := HW.out.cell g1
       have g2 := HW.out.cell g2
       have g3 := HW.out.cell g3
       have g4 := HW.out.cell g4
       have g5 := HW.out.cell g5
       unfold GivesOp
       go_simp
       exact ⟨Ext.refl _, HW.out, rfl⟩
      ·clear hsq
       cases ho
       clear hd
       have g0 := HW.out.cell r0
       have g1 := HW.out.cell r1
       have g2 := HW.out.cell r2
       unfold GivesOp
       go_simp
       exact ⟨Ext.refl _, HW.out, rfl⟩
      ·clear hsq
       cases ho
       have h0 : vs 0 = _ := hd ⟨0, .data⟩ (by simp) rfl
       rw [h0] at i0
       have h4 : vs 4 = _ := hd ⟨4, .data⟩ (by simp) rfl
       rw [h4] at i4
       have h5 : vs 5 = _ := hd ⟨5, .data⟩ (by simp) rfl
       rw [h5] at i5
       clear hd
       unfold GivesOp
       go_simp
       refine (HSG3.out W HW.out).mono ?_
       rintro e5 w5 ⟨rfl, hx5⟩
       exact ⟨_, rfl, hx5, HW.out.trans hx5, rfl⟩
      ·clear hsq
       cases ho
       have h6 : vs 6 = _ := hd ⟨6, .data⟩ (by simp) rfl
       rw [h6] at i6
       clear hd
       unfold GivesOp
       go_simp
       exact ⟨Ext.refl _, HW.out, rfl⟩
      ·exact absurd hsq (by decide)
      ·exact absurd hsq (by decide)
      ·exact absurd hsq (by decide)
      ·exact absurd hsq (by decide)
      ·exact absurd hsq (by decide)
      ·exact absurd hsq (by decide)
      ·exact absurd hsq (by decide)
      ·exact absurd hsq (by decide)
      ·clear hsq
       cases ho
       have h7 : vs 7 = _ := hd ⟨7, .data⟩ (by simp) rfl
       rw [h7] at i7
       have h15 : vs 15 = _ := hd ⟨15, .data⟩ (by simp) rfl
       rw [h15] at i15
       clear hd
       unfold GivesOp
       go_simp
       exact ⟨Ext.refl _, HW.out, rfl⟩
      clear hsq
      cases ho
      have h16 : vs 16 = _ := hd ⟨16, .data⟩ (by simp) rfl
      rw [h16] at i16
      clear hd
      unfold GivesOp
      go_simp
      exact ⟨Ext.refl _, HW.out, rfl⟩
     intro L vs W hLm hW hR
     rw [if_pos (by decide +kernel)]
     have h17 : vs 17 = .bool false := hR 17 (by simp) (by omega)
     simp only [acts, dstAt, List.range, List.range.loop, List.foldl_cons, List.foldl_nil, h17]
     go_simp
     have hW2 : Ext wa W := hW
     clear hR hW hLm h17
     go_wp2_with fail
     go_ret
     exact givesE_bool (by rw [HF.out]) (HXA.out.trans hW2)
    obtain ⟨-, q, hq1, hq2⟩ := singB_true HBB.out.symm
    have hn1 : pn = 1 := by rw [HP3.out, hq1]; rfl
    obtain ⟨b, off, qv, rfl, hqv, c0, c1, c2⟩ := H6.out 0 (by rw [hq1]; simp)
    simp only [Nat.zero_mul, Nat.add_zero] at c0 c1 c2
    subst hn1
    replace c0 := HXA.out.cell c0
    replace c1 := HXA.out.cell c1
    replace c2 := HXA.out.cell c2
    have HQV := hI (show qv.value = q.value by have := hqv.parts.1; simpa [hq1] using this)
    obtain ⟨qb, qk, qa, qn, qc⟩ := qv
    simp only at c0 c1 c2 HQV
    have HF0 := hI (show R = (!(pb == qb)) by rw [HSB.out, singB_one HBB.out.symm hq1, hq2, Bool.true_and, <- HP1.out, <- HQV.out]; cases pb <;> cases qb <;> rfl)
    clear hq1 hq2 hqv
    go_wp2_with fail
    refine wp_region_growS (n := 75) (m := 18) [17] (GrGS wa) GrE (GrP (ver3T w sa sn sc bm fa fn fc name aw nw cw lo hi na ca xb xo x0 x1 aw1 nw1 cw1 x5 x6 aa1 na1 ca1 pb pk b off pc qb)) (by kernel_rfl) (by kernel_rfl) (Nat.le_of_ble_eq_true rfl) (fun i => [].contains i) ?sg ?gd ?sk ((Ext.refl wa).drew) ?_ ?_ ?_
    case sg =>
     intro i o hi hs ho
     rcases ltc18 hi with rfl | rfl | rfl | rfl | rfl | rfl | rfl | rfl | rfl | rfl | rfl | rfl | rfl | rfl | rfl | rfl | rfl | rfl <;> (cases ho; first | (exact absurd hs (by decide); done) | exact nofun)
    case gd =>
     intro i o j b hi ho hg
     rcases ltc18 hi with rfl | rfl | rfl | rfl | rfl | rfl | rfl | rfl | rfl | rfl | rfl | rfl | rfl | rfl | rfl | rfl | rfl | rfl <;> (cases ho; first | (cases hg; done) | (cases hg; intro v W h; first | (rw [if_neg (by decide)]; exact h) | (rw [if_pos (by decide)]; intro e; first | (rw [show v = .bool false from h] at e; cases e; done) | (rw [show v = .bool true from h] at e; cases e; done) | (rw [show v = undef from h] at e; cases e; done))))
    case sk =>
     intro i hi hs L vs W hiL hG
     rcases ltc18 hi with rfl | rfl | rfl | rfl | rfl | rfl | rfl | rfl | rfl | rfl | rfl | rfl | rfl | rfl | rfl | rfl | rfl | rfl <;> first | (exact absurd hs (by decide); done) | exact ⟨Ext.refl W, hG, rfl⟩
    ·intro i k v W W' hi hk hne hout h hE
     have hE : Ext W W' := hE
     have hi' := ltc18 hi
     clear hi hk hne hout
     rcases hi' with rfl | rfl | rfl | rfl | rfl | rfl | rfl | rfl | rfl | rfl | rfl | rfl | rfl | rfl | rfl | rfl | rfl | rfl
     ·exact h
     ·exact h
     ·exact h
     ·exact h
     ·exact h
     ·exact h
     ·exact h
     ·exact h
     ·exact h
     ·exact h
     ·exact h
     ·exact h
     ·exact h
     ·exact h
     ·exact h
     ·exact h
     ·exact h
     exact h
    ·intro q op hq hsq ho L vs W hqL hcL hW hd ρ hρ
     have hq' := ltc18 hq
     clear hq
     have o3 : ρ (.tmp 3) = .pointer (some ⟨w.heap.size, 0, none⟩) := hρ.out 3 rfl
     have o4 : ρ (.tmp 4) = .pointer (some ⟨w.heap.size + 1, 0, none⟩) := hρ.out 4 rfl
     have i1 := hρ.i 1 14
     have i2 := hρ.i 2 15
     have i3 := hρ.i 3 16
     have o5 : ρ (.tmp 5) = .pointer (some ⟨w.heap.size + 1 + 1, 0, none⟩) := hρ.out 5 rfl
     have i0 := hρ.i 0 13
     have i4 := hρ.i 4 17
     have i5 := hρ.i 5 18
     have i6 := hρ.i 6 19
     have i8 := hρ.i 8 21
     have i10 := hρ.i 10 23
     have i11 := hρ.i 11 24
     have i12 := hρ.i 12 25
     have i13 := hρ.i 13 26
     have i9 := hρ.i 9 22
     have i14 := hρ.i 14 27
     have i7 := hρ.i 7 20
     have i15 := hρ.i 15 28
     have i16 := hρ.i 16 29
     have hc := hρ.const
     have hfn := hρ.func
     clear hρ
     have HG := hI hW
     have HW := hI (show Ext wa W from hW)
     have HQL := hI hqL
     clear hW hqL hcL
     rcases hq' with rfl | rfl | rfl | rfl | rfl | rfl | rfl | rfl | rfl | rfl | rfl | rfl | rfl | rfl | rfl | rfl | rfl | rfl
     ·clear hsq
      cases ho
      clear hd
      have g0 := HW.out.cell e0
      have g1 := HW.out.cell e1
      have g2 := HW.out.cell e2
      unfold GivesOp
      go_simp
      exact ⟨Ext.refl _, HW.out, rfl⟩
     ·clear hsq
      cases ho
      clear hd
      unfold GivesOp
      go_simp
      exact ⟨Ext.refl _, HW.out, rfl⟩
     ·clear hsq
      cases ho
      have h1 : vs 1 = _ := hd ⟨1, .data⟩ (by simp) rfl
      rw [h1] at i1
      clear hd
      have g5 := HW.out.cell f5
      unfold GivesOp
      go_simp
      exact ⟨Ext.refl _, HW.out, rfl⟩
     ·clear hsq
      cases ho
      have h2 : vs 2 = _ := hd ⟨2, .data⟩ (by simp) rfl
      rw [h2] at i2
      clear hd
      unfold GivesOp
      go_simp
      exact ⟨Ext.refl _, HW.out, rfl⟩
     ·clear hsq
      cases ho
      have h3 : vs 3 = _ := hd ⟨3, .data⟩ (by simp) rfl
      rw [h3] at i3
      clear hd
      have g0 := HW.out.cell g0
      have g1 := HW.out.cell g1
      have g2 := HW.out.cell g2
      have g3 := HW.out.cell g3
      have g4 := HW.out.cell g4
      have g5 := HW.out.cell g5
      unfold GivesOp
      go_simp
      exact ⟨Ext.refl _, HW.out, rfl⟩
     ·clear hsq
      cases ho
      clear hd
      have g0 := HW.out.cell r0
      have g1 := HW.out.cell r1
      have g2 := HW.out.cell r2
      unfold GivesOp
      go_simp
      exact ⟨Ext.refl _, HW.out, rfl⟩
     ·clear hsq
      cases ho
      have h0 : vs 0 = _ := hd ⟨0, .data⟩ (by simp) rfl
      rw [h0] at i0
      have h4 : vs 4 = _ := hd ⟨4, .data⟩ (by simp) rfl
      rw [h4] at i4
      have h5 : vs 5 = _ := hd ⟨5, .data⟩ (by simp) rfl
      rw [h5] at i5
      clear hd
      unfold GivesOp
      go_simp
      refine (HSG3.out W HW.out).mono ?_
      rintro e5 w5 ⟨rfl, hx5⟩
      exact ⟨_, rfl, hx5, HW.out.trans hx5, rfl⟩
     ·clear hsq
      cases ho
      have h6 : vs 6 = _ := hd ⟨6, .data⟩ (by simp) rfl
      rw [h6] at i6
      clear hd
      unfold GivesOp
      go_simp
      exact ⟨Ext.refl _, HW.out, rfl⟩
     ·clear hsq
      cases ho
      clear hd
      unfold GivesOp
      go_simp
      exact ⟨Ext.refl _, HW.out, rfl⟩
     ·clear hsq
      cases ho
      have h8 : vs 8 = _ := hd ⟨8, .data⟩ (by simp) rfl
      rw [h8] at i8
      clear hd
      have g0 := HW.out.cell r0
      unfold GivesOp
      go_simp
      exact ⟨Ext.refl _, HW.out, rfl⟩
     ·clear hsq
      cases ho
      clear hd
      unfold GivesOp
      go_simp
      exact ⟨Ext.refl _, HW.out, rfl⟩
     ·clear hsq
      cases ho
      have h10 : vs 10 = _ := hd ⟨10, .data⟩ (by simp) rfl
      rw [h10] at i10
      clear hd
      have g2 := HW.out.cell r2
      unfold GivesOp
      go_simp
      exact ⟨Ext.refl _, HW.out, rfl⟩
     ·clear hsq
      cases ho
      have h11 : vs 11 = _ := hd ⟨11, .data⟩ (by simp) rfl
      rw [h11] at i11
      clear hd
      unfold GivesOp
      go_simp
      exact ⟨Ext.refl _, HW.out, rfl⟩
     ·clear hsq
      cases ho
      have h12 : vs 12 = _ := hd ⟨12, .data⟩ (by simp) rfl
      rw [h12] at i12
      clear hd
      unfold GivesOp
      go_simp
      exact ⟨Ext.refl _, HW.out, rfl⟩
     ·clear hsq
      cases ho
      have h13 : vs 13 = _ := hd ⟨13, .data⟩ (by simp) rfl
      rw [h13] at i13
      clear hd
      have g0 := HW.out.cell c0
      unfold GivesOp
      go_simp
      exact ⟨Ext.refl _, HW.out, rfl⟩
     ·clear hsq
      cases ho
      have h9 : vs 9 = _ := hd ⟨9, .data⟩ (by simp) rfl
      rw [h9] at i9
      have h14 : vs 14 = _ := hd ⟨14, .data⟩ (by simp) rfl
      rw [h14] at i14
      clear hd
      unfold GivesOp
      go_simp
      exact ⟨Ext.refl _, HW.out, rfl⟩
     ·clear hsq
      cases ho
      have h7 : vs 7 = _ := hd ⟨7, .data⟩ (by simp) rfl
      rw [h7] at i7
      have h15 : vs 15 = _ := hd ⟨15, .data⟩ (by simp) rfl
      rw [h15] at i15
      clear hd
      unfold GivesOp
      go_simp
      exact ⟨Ext.refl _, HW.out, rfl⟩
     clear hsq
     cases ho
     have h16 : vs 16 = _ := hd ⟨16, .data⟩ (by simp) rfl
     rw [h16] at i16
     clear hd
     unfold GivesOp
     go_simp
     exact ⟨Ext.refl _, HW.out, rfl⟩
    intro L vs W hLm hW hR
    rw [if_pos (by decide +kernel)]
    have h17 : vs 17 = .bool (!(pb == qb)) := hR 17 (by simp) (by omega)
    simp only [acts, dstAt, List.range, List.range.loop, List.foldl_cons, List.foldl_nil, h17]
    go_simp
    have hW2 : Ext wa W := hW
    clear hR hW hLm h17
    go_wp2_with fail
    go_ret
    exact givesE_bool (by rw [HF0.out]) (HXA.out.trans hW2)
   -- and, or
   have HQ := hI (show R = sevB s f V op args p by rw [HR.out, if_neg (by omega), if_pos h78])
   obtain ⟨B, hB⟩ : ∃ B, B = sevB s f V op args p := ⟨_, rfl⟩
   rw [<- hB] at HQ HSV
   clear hB HFC HFW HSG HSD HVV HVN HR HDC
   rcases h78 with rfl | rfl
   all_goals
    go_enter Tryz.func39, Tryz.ntmps39
    go_upto_region 1 with fail
    rw [<- hwa]
    clear hwa
    go_wp2_with fail
    refine (HSV.out wa HXA.out).mono ?_
    rintro r w6 ⟨rfl, hx6⟩
    have HX6 := hI (HXA.out.trans hx6)
    clear hx6
    go_wp2_with fail
    go_ret
    exact givesE_bool (by rw [HQ.out]) HX6.out
open Go.RowKit
def pcd : BA := ⟨#[99, 45]⟩
theorem new_callsB (la : OA) (ln lc : Nat) (w0 w : World) (h : IntsAt w0 la ln) (hx : Ext w0 w) (hl : ln <= 1000000000000000) : Calls Tryz.prog 20 #[.slice la ln lc] w (fun e w' => ∃ bd, e = .returned (.pointer (some ⟨bd, 0, none⟩)) /\ DeckAt w0 w' bd /\ Ext w w' /\ w.heap.size <= bd) := by
 have HX := hI hx
 clear hx
 go_enter Tryz.func20, Tryz.ntmps20
 go_wp2_with fail
 go_ret
 exact ⟨w.heap.size, rfl, ⟨la, ln, lc, 0, alloc_new w _, by omega, hl, h, HX.out.trans ((Ext.refl w).alloc _), HX.out.size⟩, (Ext.refl w).alloc _, Nat.le_refl _⟩
def intCells (z : Int) : List Value := [.int .i64 z]
def FctQ (attrs : List Attr) (w0 : World) (bd : Nat) (M : ZN) (w : World) (e : Ending) (w' : World) : Prop := ∃ (f : ZI) (a : OA) (c : Nat), e = .returned (.slice a f.length c) /\ factsAll attrs f = true /\ f.length <= 1000 /\ IsIntF (mask w' M) f a f.length /\ DeckAt w0 w' bd /\ Chg [bd] w w'
def FctL (attrs : List Attr) (w0 w : World) (bd bs base : Nat) (o : Obj) (v i : Value) (wr : World) : Prop := ∃ f : ZI, i = .int .i64 (f.length : Nat) /\ f.length <= attrs.length /\ (∀ j (h1 : j < attrs.length) (h2 : j < f.length), (domB attrs[j]).1 <= f[j] /\ f[j] <= (domB attrs[j]).2) /\ wr.ownsRow base 3 1 v f.length (f.flatMap intCells) /\ wr.heap[bs]? = some o /\ DeckAt w0 wr bd /\ Chg [bd] w wr
theorem schemas_err : (schemas.all fun l => decide (schemaErr l = 0) && l.all fun a => decide (a.name.size <= 1000) && (decide (a.words.length <= 1000) && a.words.all fun x => decide (x.size <= 1000))) = true := by decide +kernel
theorem schema_zero {l : List Attr} (h : l ∈ schemas) : schemaErr l = 0 := by
 have := List.all_eq_true.1 schemas_err l h
 simp only [Bool.and_eq_true, decide_eq_true_eq] at this
 exact this.1
theorem ints_own {w : World} {M : ZN} {base : Nat} {v : Value} {f : ZI} (h : w.ownsRow base 3 1 v f.length (f.flatMap intCells)) (hM : ∀ k, v.ownBlock = some k -> k ∉ M) : ∃ a c, v = .slice a f.length c /\ IsIntF (mask w M) f a f.length := by
 obtain ⟨a, c, rfl, hr⟩ := IsRows.of_owns (f := intCells) (fun _ => rfl) h
 refine ⟨a, c, rfl, rfl, fun i hi => ?_⟩
 obtain ⟨b, off, rfl, hc⟩ := hr.2.2.2 i hi
 refine ⟨b, off, rfl, ?_⟩
 have := hc 0 (by simp [intCells])
 rw [mask_cell, if_neg (hM _ rfl)]
 simpa [intCells] using this
theorem own_snoc {w : World} {base : Nat} {v : Value} {f : ZI} {k : Nat} {z : Int} (hk : k = f.length) (h : w.ownsRow base 3 1 v (k + 1) (f.flatMap intCells ++ (#[Value.int .i64 z] : Array Value).toList)) : w.ownsRow base 3 1 v (f ++ [z]).length ((f ++ [z]).flatMap intCells) := by
 have : (f ++ [z]).length = k + 1 := by simp [hk]
 rw [this]
 simpa [intCells] using h
theorem dfacts_calls {attrs : List Attr} (h0 : schemaErr attrs = 0) (hf : ∀ x ∈ attrs, x.fits) {w0 w : World} {bd : Nat} (hd : DeckAt w0 w bd) (sa : OA) (sn sc : Nat) (M : ZN) (hs : IsSchema (mask w [bd]) attrs (.agg #[.slice sa sn sc])) (hM : ∀ y ∈ M, y < w.heap.size) :
  Calls Tryz.prog 22 #[.pointer (some ⟨bd, 0, none⟩), .agg #[.slice sa sn sc]] w (FctQ attrs w0 bd M w) := by
 obtain ⟨q1, q2, q3⟩ := schema_attrs h0
 have hbw := hd.lt
 have HSN := hI (show sn = attrs.length by obtain ⟨a', n', c', e', h', -⟩ := hs.parts; simp at e'; omega)
 have HDOM := hI (fun (i : Nat) (hi : i < attrs.length) W (hW : Chg [bd] w W) => rDomain_calls attrs (.agg #[.slice sa sn sc]) i W (((hs.mono (mask_step hW (by simp))).mono (mask_sub _ _))) hf (by omega) h0 hi)
 have HAD := hI (fun (i : Nat) (hi : i < attrs.length) => attr_dom (q3 i hi).1)
 have HD := hI hd
 have HM := hI hM
 have HW0 := hI (show w0.heap.size <= w.heap.size by obtain ⟨_, _, _, _, _, _, _, _, hxw, _⟩ := hd; exact hxw.size)
 clear hs hM hf q1 q3 h0 hd
 obtain ⟨wa, hwa⟩ : ∃ wa, wa = w.alloc (.cells #[.slice sa sn sc] 31) := ⟨_, rfl⟩
 have hxa : Ext w wa := by rw [hwa]; exact (Ext.refl _).alloc _
 have HB0 := hI (show wa.heap[w.heap.size]? = some (.cells #[.slice sa sn sc] 31 (0, 0)) by rw [hwa]; exact alloc_new w _)
 have HDA := hI (HD.out.ext hxa)
 have HCA := hI (hxa.chg [bd])
 clear hxa
 go_enter Tryz.func22, Tryz.ntmps22
 go_upto_region 1 with fail
 rw [<- hwa]
 clear hwa
 go_wp2_with fail
 go_loopw [5, 6] (FctL attrs w0 w bd w.heap.size (w.heap.size + 1) (.cells #[.slice sa sn sc] 31 (0, 0))) (fun _ i _ => sn - (intOf i).toNat)
 case atStart => exact ⟨[], rfl, by simp, fun j _ h => by simp at h, ⟨rfl, Or.inl ⟨rfl, rfl⟩⟩, HB0.out, HDA.out, HCA.out⟩
 case round =>
  obtain ⟨f, rfl, hk, hall, hown, hb0, hd, hc⟩ := hrel
  obtain ⟨k, hkf⟩ : ∃ k, k = f.length := ⟨_, rfl⟩
  rw [<- hkf] at hown hk ⊢
  have HKF := hI hkf
  have HALL := hI hall
  have HOWN := hI hown
  have HBB := hI hb0
  have HDR := hI hd
  have HCR := hI hc
  obtain ⟨e0, ef⟩ := blk1 hb0
  have HRO := hI (show ∀ z ∈ rowOf u5, w.heap.size + 1 <= z /\ z < wr.heap.size from fun z hz => ⟨(hown.lt z (mem_rowOf.1 hz)).1, (hown.lt z (mem_rowOf.1 hz)).2⟩)
  clear hkf hall hown hb0 hd hc
  by_cases hkn : k < sn
  ·have hka : k < attrs.length := by have := HSN.out; omega
   have t1 : decide ((k : Int) < (sn : Int)) = true := decide_eq_true (by omega)
   have HDK := hI (HDOM.out k hka wr HCR.out)
   obtain ⟨hlh, hlo, hhi, -, -⟩ := HAD.out k hka
   unfold domV at HDK
   obtain ⟨lo, hlov⟩ : ∃ lo, lo = (domB attrs[k]).1 := ⟨_, rfl⟩
   obtain ⟨hi, hhiv⟩ : ∃ hi, hi = (domB attrs[k]).2 := ⟨_, rfl⟩
   rw [<- hlov, <- hhiv] at HDK
   rw [<- hlov] at hlh hlo
   rw [<- hhiv] at hlh hhi
   have HLV := hI hlov
   have HHV := hI hhiv
   clear hlov hhiv
   go_wp2_with fail
   refine HDK.out.mono ?_
   rintro r w1 ⟨rfl, hx1⟩
   have HD1 := hI (HDR.out.ext hx1)
   have HC1 := hI (HCR.out.then (hx1.chg [bd]))
   have HB1 := hI (hx1.blk HBB.out)
   have HO1 := hI (owns_ext HOWN.out hx1)
   have HR1 := hI (show ∀ z ∈ rowOf u5, w.heap.size + 1 <= z /\ z < w1.heap.size from fun z hz => by have := HRO.out z hz; have := hx1.size; omega)
   clear hx1 e0 ef HDR HCR HBB HOWN HRO HDK
   go_wp2_with fail
   refine (next_calls HD1.out (hi - lo + 1) (by omega) (by omega)).mono ?_
   rintro r w2 ⟨r1, rfl, hr1, hr2, hd2, hc2⟩
   have HD2 := hI hd2
   have HC2 := hI (HC1.out.then hc2)
   have HB2 := hI (hc2.blk HB1.out (by simp; omega))
   have HO2 := hI (owns_chg HO1.out hc2 (fun q hq hm => by have := (HR1.out q (mem_rowOf.2 hq)).1; simp only [List.mem_singleton] at hm; omega))
   have HR2 := hI (show ∀ z ∈ rowOf u5, w.heap.size + 1 <= z /\ z < w2.heap.size from fun z hz => by have := HR1.out z hz; have := hc2.size; omega)
   clear hd2 hc2 HD1 HC1 HB1 HO1 HR1
   have HLH := hI (show lo <= hi /\ 0 <= r1 /\ r1 < hi - lo + 1 from ⟨hlh, hr1, hr2⟩)
   go_wp2_with fail
   refine (next_calls HD2.out 5 (by omega) (by omega)).mono ?_
   rintro r w3 ⟨r3, rfl, hr3, hr4, hd3, hc3⟩
   have HD3 := hI hd3
   have HC3 := hI (HC2.out.then hc3)
   have HB3 := hI (hc3.blk HB2.out (by simp; omega))
   have HO3 := hI (owns_chg HO2.out hc3 (fun q hq hm => by have := (HR2.out q (mem_rowOf.2 hq)).1; simp only [List.mem_singleton] at hm; omega))
   have HR3 := hI (show ∀ z ∈ rowOf u5, w.heap.size + 1 <= z /\ z < w3.heap.size from fun z hz => by have := HR2.out z hz; have := hc3.size; omega)
   clear hd3 hc3 HD2 HC2 HB2 HO2 HR2 hlh hlo hhi hr1 hr2
   rcases (by omega : r3 = 0 \/ r3 = 1 \/ r3 = 2 \/ (r3 ≠ 0 /\ r3 ≠ 1 /\ r3 ≠ 2)) with rfl | rfl | rfl | ⟨q0, q1, q2⟩
   case' inl => go_upto_region 14 with fail
   case' inr.inl => go_upto_region 14 with fail
   case' inr.inr.inl =>
    go_wp2_with fail
    refine (next_calls HD3.out 12 (by omega) (by omega)).mono ?_
    rintro r w3 ⟨r5, rfl, hr5, hr6, hd3, hc3⟩
    have HD3 := hI hd3
    have HC3 := hI (HC3.out.then hc3)
    have HB3 := hI (hc3.blk HB3.out (by simp; omega))
    have HO3 := hI (owns_chg HO3.out hc3 (fun q hq hm => by have := (HR3.out q (mem_rowOf.2 hq)).1; simp only [List.mem_singleton] at hm; omega))
    have HR3 := hI (show ∀ z ∈ rowOf u5, w.heap.size + 1 <= z /\ z < w3.heap.size from fun z hz => by have := HR3.out z hz; have := hc3.size; omega)
    clear hd3 hc3
    go_upto_region 14 with fail
   case' inr.inr.inr =>
    have t0 : (r3 == 0) = false := by simp [q0]
    have t2 : (r3 == 1) = false := by simp [q1]
    have t3 : (r3 == 2) = false := by simp [q2]
    go_upto_region 14 with fail
   all_goals
    have hsx := HC3.out.size
    have hblt := blk_lt HB3.out
    go_wp2_with (at_builtin; refine wpList_append_at elemInts rfl _ _ rfl (w.heap.size + 1) _ k _ rfl HO3.out _ 1 1 rfl ?f0 rfl ?f1 ?f2 ?f3 ?f4 ?_)
    case f0 => simp
    case f1 => simp [Value.oneCell']
    case f2 => unfold maxLen; omega
    case f3 => omega
    case f4 => omega
    intro v8 w8 hown8 hc8 hw8
    have HO8 := hI (own_snoc HKF.out hown8)
    have HB8 := hI (hc8.blk HB3.out (fun hm => by have := (HR3.out _ hm).1; omega))
    have HD8 := hI (HD3.out.chg hc8 (fun hm => by have := (HR3.out _ hm).1; omega) (fun y hy => by have := (HR3.out _ hy).1; have := HW0.out; omega))
    have HC8 := hI (HC3.out.trans hc8 (fun y hy => Or.inr (by have := (HR3.out _ hy).1; omega)))
    obtain ⟨a8, c8, hv8⟩ := owns_formG hown8
    subst hv8
    clear hown8 hc8 hw8
    go_wp2_with fail
    go_roundw
    case rel =>
     have hlh := HLH.out
     refine ⟨f ++ [_], ?_, ?_, fun j h1 h2 => ?_, HO8.out, HB8.out, HD8.out, HC8.out⟩
     ·rw [List.length_append, <- HKF.out]
      go_num
     ·rw [List.length_append, <- HKF.out]; simp; omega
     by_cases e : j < f.length
     ·rw [List.getElem_append_left e]; exact HALL.out j h1 e
     have hjk : j = k := by have := HKF.out; simp at h2; omega
     subst hjk
     rw [List.getElem_append_right (by omega)]
     simp only [List.getElem_singleton]
     rw [<- HLV.out, <- HHV.out]
     exact ⟨by omega, by omega⟩
    case measure => simp [intOf]; omega
  have t1 : decide ((k : Int) < (sn : Int)) = false := decide_eq_false (by omega)
  have hk2 : k = attrs.length := by have := HSN.out; omega
  have hos := HOWN.out
  rw [HKF.out] at hos
  obtain ⟨a', c', rfl, hii⟩ := ints_own (M := M) hos (fun z hz hm => by have := (HRO.out z (mem_rowOf.2 hz)).1; have := HM.out z hm; omega)
  have HII := hI hii
  clear hos hii
  go_wp2_with fail
  go_ret
  exact ⟨f, a', c', by rw [<- HKF.out]; rfl, factsAll_of (by rw [<- HKF.out]; exact hk2) HALL.out, by rw [<- HKF.out]; omega, HII.out, HDR.out, HCR.out⟩
end Go.Proofs.YtpkljcgihobaiaaGreatDoor
