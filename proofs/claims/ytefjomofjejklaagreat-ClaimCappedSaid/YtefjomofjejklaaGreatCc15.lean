/-
  Texts of the claim, joined: RangeB, Eff, CVld.
-/
import Derived.Test.YtefjomofjejklaaGreatCc14
namespace Go.Proofs.YtefjomofjejklaaGreat
set_option maxRecDepth 100000
set_option maxHeartbeats 32000000
open Go.RowKit Go.Shelf
def actB {α : Type} (ps : Array Tmp) (encs : α -> Array Value) (tmps : Array Value) (slot : Nat) (x : α) (Bx : Nat) : Act :=
 {tmps := (((ps.zip (encs x)).foldl (fun t (p, v) => t.setIfInBounds p v) tmps).setIfInBounds slot (.pointer (some ⟨Bx, 0, none⟩))), defers := [] }
theorem wpIn_rangeFunc_box {F : Fence} {n : Nat} {P : Program} {α : Type} {g : Operand} {ps : Array Tmp} {assign body : Code} {Q : Exit -> Act -> World -> Prop} {a : Act} {w : World} (slot : Nat) (T : TypeId) (bx : α -> Array Value)
  (hro : F.round = none) (h1 : 1 <= n) {gf : Nat} {lb : Array Value} (hg : a.eval g = .func (.func gf) #[] lb) (hFg : F.fn gf) (eg : ∀ args w, (callFunc gf args).run P w = .ok (.enter gf args) w)
  {encs : α -> Array Value} {Kp : World -> World -> Prop} {S Sp : List α -> Prop} {N : Nat} {w0 : World} (hseq : SeqStopsK F (n - 1) P gf lb encs Kp S Sp N w0)
  (hKt : ∀ {A B C : World}, Kp A B -> Kp B C -> Kp A C) (hKb : ∀ (W : World) (l : Nat) (o o' : Obj), w.heap.size <= l -> W.heap[l]? = some o -> o.isCells = false -> o.isWalk = false -> Kp W (W.putObj l o')) (hb0 : Below w0.heap.size w0 w) (hps : ∀ x, (encs x).size = ps.size)
  (I : List α -> World -> Prop) (hI : OwnFrom w.heap.size I) (h0 : I [] w)
  (hassign : ∀ (l : Nat) (pre : List α) (x : α) (W : World) (K : Act -> World -> Prop), I pre W -> (∀ Bx W', KeepsFrom w.heap.size W W' -> Kp W W' -> I pre W' -> w.heap.size <= Bx -> W'.heap[Bx]? = some (.cells (bx x) T (0, 0)) -> K (actB ps encs a.tmps slot x Bx) W') ->
   assign.wpIn (F.inRound l) (n - 1 - 1) P (Exit.then K (fun _ _ _ => False)) { tmps := (ps.zip (encs x)).foldl (fun t (p, v) => t.setIfInBounds p v) a.tmps, defers := [] } W)
  (hbody : ∀ (l : Nat) (pre : List α) (x : α) (Bx : Nat) (W : World), I pre W -> w.heap.size <= Bx -> W.heap[Bx]? = some (.cells (bx x) T (0, 0)) -> pre.length < N -> body.wpIn (F.inRound l) (n - 1 - 1) P (ownPostG w.heap.size Kp I (fun _ _ _ => False) (pre ++ [x]) W) (actB ps encs a.tmps slot x Bx) W)
  (hdone : ∀ (D : Nat) (xs : List α) (W : World), w.heap.size <= D -> S xs -> I xs W -> W.heap[D]? = some (.deferred (some [])) -> Q .normal { a with defers := { target := .collected D, args := #[] } :: a.defers } W) :
  (Code.rangeFunc g ps assign body).wpIn F n P Q a w := by
 refine wpIn_rangeFunc_ownH hro h1 hg hFg eg hseq hKt hKb hb0 hps I (fun _ _ _ => False) hI (fun _ _ _ _ _ hs _ _ => hs) h0
  (fun x a' W => ∃ Bx, w.heap.size <= Bx /\ W.heap[Bx]? = some (.cells (bx x) T (0, 0)) /\ a' = actB ps encs a.tmps slot x Bx) ?_ ?_ ?_ hdone ?_
 ·rintro x a' _ X Y row ⟨Bx, e1, e2, e3⟩ hgr hr
  refine ⟨Bx, e1, (hgr.block Bx (Array.getElem?_eq_some_iff.1 e2).1 (fun e => ?_)).trans e2, e3⟩
  obtain ⟨_, o, ho, hc⟩ := hr Bx e.symm
  rw [e2] at ho
  cases ho
  cases hc
 ·intro l pre x W K hi hK
  exact hassign l pre x W K hi fun Bx W' h1 h2 h3 h4 h5 => hK _ _ h1 h2 h3 ⟨Bx, h4, h5, rfl⟩
 ·rintro l pre x a' W _ _ hi ⟨Bx, e1, e2, rfl⟩ hlt
  exact hbody l pre x Bx W hi e1 e2 hlt
 rintro D c pre W _ _ h _
 exact h.elim
open Go.RowKit Go.Maps Go.Shelf
attribute [local go_sem] Oper.semAt_some
def ClmArg (c : Clm) (a : OA) (n cap : Nat) : Value := .agg #[.int .i64 c.id, .int .i64 c.policy, .int .i64 c.risk, .int .i64 c.hour, .int .i64 c.peril, .int .i64 c.area, .slice a n cap]
def ClmCells (c : Clm) (a : OA) (n cap : Nat) : Array Value := #[.int .i64 c.id, .int .i64 c.policy, .int .i64 c.risk, .int .i64 c.hour, .int .i64 c.peril, .int .i64 c.area, .slice a n cap]
def fitEv (x : Ev) : Prop := (Lit.int .i64 x.number).wf = true /\ (Lit.int .i64 x.target).wf = true
theorem rows_seven {w : World} {vs : List EvV} {a : OA} {n cap : Nat} (h : IsRows w 7 EvV.cells vs a n cap) {k : Nat} (hk : k < vs.length) : ∃ b off, a = some ⟨b, off, none⟩ /\ w.cell? ⟨b, off + k * 7, none⟩ = some (.int .i64 vs[k].x.number) /\ w.cell? ⟨b, off + k * 7 + 1, none⟩ = some (.int .i64 vs[k].x.known) /\ w.cell? ⟨b, off + k * 7 + 2, none⟩ = some (.int .i64 vs[k].x.kind) /\
  w.cell? ⟨b, off + k * 7 + 3, none⟩ = some (.slice vs[k].a vs[k].n vs[k].c) /\ w.cell? ⟨b, off + k * 7 + 4, none⟩ = some (.int .i64 vs[k].x.cur) /\ w.cell? ⟨b, off + k * 7 + 5, none⟩ = some (.int .i64 vs[k].x.amount) /\ w.cell? ⟨b, off + k * 7 + 6, none⟩ = some (.int .i64 vs[k].x.target) := by
 obtain ⟨b, off, e, hc⟩ := h.2.2.2 k hk
 exact ⟨b, off, e, hc 0 (by simp [EvV.len]), hc 1 (by simp [EvV.len]), hc 2 (by simp [EvV.len]), hc 3 (by simp [EvV.len]), hc 4 (by simp [EvV.len]), hc 5 (by simp [EvV.len]), hc 6 (by simp [EvV.len])⟩
def EffQ (c : Clm) (hour : Int) (w : World) (e : Ending) (w' : World) : Prop := ∃ ra rn rc, e = .returned (.slice ra rn rc) /\ IsEvs w' (effL c.events hour) ra rn rc /\ Ext w w'
theorem effL_bad {l : List Ev} {hour : Int} (h : soundEvs [] l = false) : effL l hour = [] := by unfold effL; rw [if_neg (by simp [h])]
def EffA (l : List Ev) (n b0 b1 b2 : Nat) (cs : Array Value) (hour : Int) (w : World) (i : Value) (wr : World) : Prop :=
 ∃ (k : Nat) (ns : ZI), i = .int .i64 k /\ k <= n /\ soundEvs [] (l.take k) = true /\ (∀ t, ns.any (· == t) = (l.take k).any (fun y => y.number == t)) /\ MapAt wr 3 b2 k (numF ns) /\ wr.heap[b0]? = some (.cells cs 33 (0, 0)) /\ wr.heap[b1]? = some (.cells #[.int .i64 hour] 3 (0, 0)) /\ Ext w wr
theorem kind_other {v : EvV} (h : v.x.kind ≠ 7) (W : World) : (Instr.typeAssert (kindV v) 20 165 true).run Tryz.prog W = .ok (.tuple #[.agg #[.int .i64 0], .bool false]) W := by
 rcases (by omega : v.x.kind = 1 \/ v.x.kind = 2 \/ v.x.kind = 3 \/ v.x.kind = 4 \/ v.x.kind = 5 \/ v.x.kind = 6 \/ (v.x.kind < 1 \/ 7 < v.x.kind)) with e | e | e | e | e | e | e
 ·rw [kindV_1 e]; kernel_rfl
 ·rw [kindV_2 e]; kernel_rfl
 ·rw [kindV_3 e]; kernel_rfl
 ·rw [kindV_4 e]; kernel_rfl
 ·rw [kindV_5 e]; kernel_rfl
 ·rw [kindV_6 e]; kernel_rfl
 rw [kindV_0 e]; kernel_rfl
theorem kind_void {v : EvV} (h : v.x.kind = 7) (W : World) : (Instr.typeAssert (kindV v) 20 165 true).run Tryz.prog W = .ok (.tuple #[.agg #[.int .i64 v.x.target], .bool true]) W := by
 rw [kindV_7 h]; kernel_rfl
theorem makeHint (t : Int) (W : World) : (Instr.makeMap 163 (some (.int .i64 t))).run Tryz.prog W = .ok (.map (some W.heap.size)) (W.alloc (.map #[] 0)) := by kernel_rfl
def stW (hour : Int) (pre : List EvW) : ZI × List EvV := effFold hour (pre.map fun x => x.1.2)
def EffRow (hour : Int) (S B10 : Nat) (pre : List EvW) (W : World) : Prop := ∃ v, Boxed W B10 31 v /\ W.ownsRow S 71 7 v (stW hour pre).2.length ((stW hour pre).2.flatMap EvV.cells) /\ (v = .slice none 0 0 ↔ (stW hour pre).2 = [])
def EffI (hour : Int) (B10 m B11 Bh Bs : Nat) (sv : Value) (w : World) (pre : List EvW) (W : World) : Prop :=
 EffRow hour w.heap.size B10 pre W /\ (MapAt W 3 m pre.length (numF (stW hour pre).1) /\ (Boxed W B11 163 (.map (some m)) /\ (Boxed W Bh 3 (.int .i64 hour) /\ (Boxed W Bs 31 sv /\ Below w.heap.size w W))))
theorem stW_snoc (hour : Int) (pre : List EvW) (x : EvW) : stW hour (pre ++ [x]) = effStep hour (stW hour pre) x.1.2 := by simp [stW, effFold_snoc]
theorem stW_len (hour : Int) (pre : List EvW) : (stW hour pre).2.length <= pre.length := by have := (effFold_len hour (pre.map fun x => x.1.2)).1; simpa [stW] using this
theorem effI_own {hour : Int} {S B10 m B11 Bh Bs : Nat} {sv : Value} {w : World} (hm : m < S) (hw : w.heap.size <= S) : OwnFrom S (EffI hour B10 m B11 Bh Bs sv w) := by
 refine OwnFrom.and (Own.from (holdsRow_own w.heap.size B10 31 71 7 (fun pre => (stW hour pre).2.length) (fun pre => (stW hour pre).2.flatMap EvV.cells) (fun pre v => (v = .slice none 0 0 ↔ (stW hour pre).2 = []))) _) ?_
 refine OwnFrom.and (fun s A B row hs hg hr => hs.grown hg (fun e => by have := (hr _ e.symm).1; omega)) ?_
 refine OwnFrom.and (Own.from (boxed_own _ _ (fun _ => .map (some m))) _) ?_
 refine OwnFrom.and (Own.from (boxed_own _ _ (fun _ => .int .i64 hour)) _) ?_
 exact OwnFrom.and (Own.from (boxed_own _ _ (fun _ => sv)) _) (ownFrom_below (Nat.le_refl _) hw)
theorem upto_bwd (vs : List EvV) (hg : ∀ v ∈ vs, goodV v) : (uptoL (bwd vs hg) vs.length).map (fun x => x.1.2) = vs.reverse := by
 apply List.ext_getElem
 ·simp [uptoL]
 intro i h1 h2
 have hi : i < vs.length := by simpa using h2
 simp only [uptoL, List.getElem_map, List.getElem_range, bwd, List.getElem_reverse]
 rw [List.getD_eq_getElem?_getD, List.getElem?_eq_getElem (by omega)]
 rfl
theorem evRows_of {w : World} {vs : List EvV} {a : OA} {n c : Nat} (h : IsRows w 7 EvV.cells vs a n c) : EvRows w.heap.size w vs a := fun i hi => by
 obtain ⟨b, off, e, hc⟩ := h.2.2.2 i hi
 exact ⟨b, off, e, block_lt (hc 0 (by simp [EvV.len])), hc⟩
theorem putObj_sub {W : World} {D : Nat} {o o' : Obj} (h : W.heap[D]? = some o) (hc : o.isCells = false) : Sub W (W.putObj D o') := fun _ _ hv => cell_kept hv (grownBy_putObj' W D o') (fun r e => by cases e; exact ⟨_, h, hc⟩)
theorem Boxed.ext {W W' : World} {B : Nat} {t : TypeId} {v : Value} (h : Boxed W B t v) (he : Ext W W') : Boxed W' B t v := he.blk h
theorem Ext.keepsFrom {W W' : World} (h : Ext W W') (B : Nat) : KeepsFrom B W W' := ⟨h.size, fun k _ _ hk _ => (h.block k (Array.getElem?_eq_some_iff.1 hk).1).trans hk⟩
theorem eff_end {hour : Int} {S B10 m B11 Bh Bs pn kn : Nat} {sv rv v' : Value} {w W wX w9 : World} {tmp : Obj} {pre : List EvW} {x : EvW} {V : ZI} {KP : List EvV}
  (hst : stW hour (pre ++ [x]) = (V, KP ++ [x.1.2])) (hkn : kn = KP.length) (hpn : pn = pre.length)
  (hv : Boxed wX B10 31 rv) (hrow : wX.ownsRow w.heap.size 71 7 rv kn (KP.flatMap EvV.cells)) (hmap : MapAt wX 3 m (pn + 1) (numF V)) (hb11 : Boxed wX B11 163 (.map (some m))) (hbh : Boxed wX Bh 3 (.int .i64 hour)) (hbs : Boxed wX Bs 31 sv)
  (hB : Below w.heap.size w wX) (hKF : KeepsFrom S W wX) (hBW : Below w.heap.size W wX) (hbsW : Boxed W Bs 31 sv)
  (hown' : w9.ownsRow w.heap.size 71 7 v' (kn + 1) (KP.flatMap EvV.cells ++ x.1.2.cells)) (hgrow : (wX.alloc tmp).grownBy w9 rv.ownBlock)
  (h1 : B11 ≠ B10) (h2 : Bh ≠ B10) (h3 : Bs ≠ B10) (h4 : m ≠ B10) (h5 : w.heap.size <= B10) :
  KeepsFrom S W (w9.setCell ⟨B10, 0, none⟩ v') /\ KpB w.heap.size Bs W (w9.setCell ⟨B10, 0, none⟩ v') /\ EffI hour B10 m B11 Bh Bs sv w (pre ++ [x]) (w9.setCell ⟨B10, 0, none⟩ v') := by
 obtain ⟨g1, g2, g3, g4, g5⟩ := Boxed.appended hv (by decide) hrow hB.size h5 hown' hgrow
 have other : ∀ {B : Nat} {t : TypeId} {u : Value}, Boxed wX B t u -> t ≠ 71 -> B ≠ B10 -> Boxed (w9.setCell ⟨B10, 0, none⟩ v') B t u := fun hb ht hne =>
  ((hb.alloc tmp).kept hgrow ((hb.alloc tmp).not_row ht (hrow.alloc tmp))).other hne v'
 have hbs' := other hbs (by decide) h3
 obtain ⟨gg, cap, rfl⟩ := ownsRow_succ hown'
 refine ⟨hKF.trans (g4.from _), ⟨hBW.trans g5, hbs'.trans hbsW.symm⟩, ⟨_, g2, ?_, ?_⟩, ?_, other hb11 (by decide) h1, other hbh (by decide) h2, hbs', hB.trans g5⟩
 ·rw [hst]
  have e1 : (KP ++ [x.1.2]).length = kn + 1 := by simp [hkn]
  have e2 : (KP ++ [x.1.2]).flatMap EvV.cells = KP.flatMap EvV.cells ++ x.1.2.cells := by simp
  show World.ownsRow _ _ _ _ _ (KP ++ [x.1.2]).length ((KP ++ [x.1.2]).flatMap EvV.cells)
  rw [e1, e2]
  exact g3
 ·rw [hst]; simp
 rw [hst]
 have e1 : (pre ++ [x]).length = pn + 1 := by simp [hpn]
 rw [e1]
 have hm2 := (hmap.ext ((Ext.refl wX).alloc tmp)).grown hgrow ((hmap.ext ((Ext.refl wX).alloc tmp)).not_row (hrow.alloc tmp))
 exact hm2.grown (grownBy_setCell' _ _ _) (fun e => h4 (by cases e; rfl))
theorem effective_calls (c : Clm) (a : OA) (n cap : Nat) (hour : Int) (w : World) (hi : IsEvs w c.events a n cap) (hn2 : n <= 1000000000000) (hfit : ∀ x ∈ c.events, fitEv x) :
  Calls Tryz.prog 61 #[ClmArg c a n cap, .int .i64 hour] w (EffQ c hour w) := by
 have HN := hI hi.len
 obtain ⟨vs, hrows, hvs, hits⟩ := hi
 obtain ⟨l, hl⟩ : ∃ l, l = c.events := ⟨_, rfl⟩
 have HVS := hI (hl.trans hvs)
 have HROWS := hI hrows
 have HITS := hI hits
 have HL := hI hl
 have HFIT := hI (show ∀ x ∈ l, fitEv x by rw [hl]; exact hfit)
 rw [<- hl] at HN
 have hmm := @run_makeMap Tryz.prog
 have hmh := makeHint
 clear hrows hvs hits hl hfit
 refine (callsIn_wide (n := 6)).1 ?_
 refine callsIn_of_wp_marks Tryz.func61 rfl trivial ?_ rfl
 simp only [Tryz.ntmps61, List.size_toArray, List.length_cons, List.length_nil, Nat.reduceAdd, Nat.reduceSub, Array.replicate_succ, Array.replicate_zero, List.push_toArray, List.append_toArray, List.nil_append, List.cons_append]
 refine wpIn_wide.2 ?_
 unfold ClmArg
 obtain ⟨wa, hwa⟩ : ∃ wa, wa = ((w.alloc (.cells #[.int .i64 c.id, .int .i64 c.policy, .int .i64 c.risk, .int .i64 c.hour, .int .i64 c.peril, .int .i64 c.area, .slice a n cap] 33)).alloc (.cells #[.int .i64 hour] 3)).alloc (.map #[] 0) := ⟨_, rfl⟩
 have HXA := hI (show Ext w wa by rw [hwa]; exact (((Ext.refl _).alloc _).alloc _).alloc _)
 have HB0 := hI (show wa.heap[w.heap.size]? = some (.cells #[.int .i64 c.id, .int .i64 c.policy, .int .i64 c.risk, .int .i64 c.hour, .int .i64 c.peril, .int .i64 c.area, .slice a n cap] 33 (0, 0)) by rw [hwa]; exact blk_alloc (blk_alloc (alloc_new w _)))
 have HB1 := hI (show wa.heap[w.heap.size + 1]? = some (.cells #[.int .i64 hour] 3 (0, 0)) by rw [hwa]; exact blk_alloc (by have := alloc_new (w.alloc (.cells #[.int .i64 c.id, .int .i64 c.policy, .int .i64 c.risk, .int .i64 c.hour, .int .i64 c.peril, .int .i64 c.area, .slice a n cap] 33)) (.cells #[.int .i64 hour] 3); rwa [World.size_alloc] at this))
 have HM := hI (show MapAt wa 3 (w.heap.size + 1 + 1) 0 (fun _ => none) by rw [hwa]; have := MapAt.made ((w.alloc (.cells #[.int .i64 c.id, .int .i64 c.policy, .int .i64 c.risk, .int .i64 c.hour, .int .i64 c.peril, .int .i64 c.area, .slice a n cap] 33)).alloc (.cells #[.int .i64 hour] 3)) 3; rwa [World.size_alloc, World.size_alloc] at this)
 obtain ⟨b0, b1, b2, b3, b4, b5, b6, bf⟩ := blk7 HB0.out
 obtain ⟨e0, ef⟩ := blk1 HB1.out
 go_upto_region 2 with fail
 rw [<- hwa]
 clear hwa
 go_wp2_with fail
 go_loopw [23] (EffA l n w.heap.size (w.heap.size + 1) (w.heap.size + 1 + 1) (ClmCells c a n cap) hour w) (fun t _ => n - (intOf t).toNat)
 case atStart => exact ⟨0, [], rfl, by omega, rfl, fun t => rfl, HM.out.congr (fun x => (numF_nil x).symm), HB0.out, HB1.out, HXA.out⟩
 case round =>
  obtain ⟨k, ns, rfl, hk, hso, hns, hmap, hc0, hc1, hx⟩ := hrel
  obtain ⟨wo, rfl⟩ : ∃ wo : World, wo = wr := ⟨_, rfl⟩
  have HSO := hI hso
  have HNS := hI hns
  have HMP := hI hmap
  have HC0 := hI hc0
  have HC1 := hI hc1
  have HX := hI hx
  clear hso hns hmap hc0 hc1 hx b0 b1 b2 b3 b4 b5 b6 bf e0 ef HB0 HB1 HM HXA
  by_cases hkn : k < n
  ·have hkl : k < l.length := by have := HN.out; omega
   have hkv : k < vs.length := by have := HVS.out; rw [this] at hkl; simpa using hkl
   have HLK := hI (show l[k] = vs[k].x by have e := HVS.out; simp [e])
   have HFK := hI (show fitEv vs[k].x by rw [<- HLK.out]; exact HFIT.out _ (List.getElem_mem hkl))
   have t1 : decide ((k : Int) < (n : Int)) = true := decide_eq_true (by omega)
   obtain ⟨b, off, rfl, c0, c1, c2, c3, c4, c5, c6⟩ := rows_seven (HROWS.out.ext HX.out) hkv
   obtain ⟨wb, hwb⟩ : ∃ wb, wb = wo.alloc (.cells #[.int .i64 vs[k].x.number, .int .i64 vs[k].x.known, .int .i64 vs[k].x.kind, .slice vs[k].a vs[k].n vs[k].c, .int .i64 vs[k].x.cur, .int .i64 vs[k].x.amount, .int .i64 vs[k].x.target] 71) := ⟨_, rfl⟩
   have HXB := hI (show Ext wo wb by rw [hwb]; exact (Ext.refl _).alloc _)
   have HBE := hI (show wb.heap[wo.heap.size]? = some (.cells #[.int .i64 vs[k].x.number, .int .i64 vs[k].x.known, .int .i64 vs[k].x.kind, .slice vs[k].a vs[k].n vs[k].c, .int .i64 vs[k].x.cur, .int .i64 vs[k].x.amount, .int .i64 vs[k].x.target] 71 (0, 0)) by rw [hwb]; exact alloc_new wo _)
   have HK := hI (fun W => kindOf_calls vs[k] W)
   unfold EvV.val at HK
   have HKT := hI (fun (h : vs[k].x.kind = 7) => kind_void h)
   have HKO := hI (fun (h : vs[k].x.kind ≠ 7) => kind_other h)
   obtain ⟨KV, hKV⟩ : ∃ KV, KV = kindV vs[k] := ⟨_, rfl⟩
   rw [<- hKV] at HK HKT HKO
   obtain ⟨E1, hE1⟩ : ∃ E1, E1 = ns.any (· == vs[k].x.target) := ⟨_, rfl⟩
   obtain ⟨E2, hE2⟩ : ∃ E2, E2 = ns.any (· == vs[k].x.number) := ⟨_, rfl⟩
   have HG1 := hI (numF_get ns vs[k].x.target)
   have HG2 := hI (numF_get ns vs[k].x.number)
   rw [<- hE1] at HG1
   rw [<- hE2] at HG2
   have HOK := hI (show soundEvs [] (l.take (k + 1)) = !((isVoid vs[k].x && !E1) || E2) by
    rw [soundEvs_step hkl HSO.out, okEv, HLK.out, hE1, hE2, HNS.out, HNS.out])
   clear hKV hE1 hE2
   go_wp2_with fail
   rw [<- hwb]
   clear hwb c0 c1 c2 c3 c4 c5 c6
   refine (HK.out wb).mono ?_
   rintro r w5 ⟨rfl, hx5⟩
   have HX5 := hI ((HX.out.trans HXB.out).trans hx5)
   have HE5 := hI (hx5.blk HBE.out)
   have HM5 := hI (HMP.out.ext (HXB.out.trans hx5))
   have HC5 := hI (hx5.blk (HXB.out.blk HC0.out))
   have HD5 := hI (hx5.blk (HXB.out.blk HC1.out))
   clear hx5 HMP HC0 HC1 HX HK
   by_cases h7 : vs[k].x.kind = 7
   ·have hta := HKT.out h7
    have HV := hI (show isVoid vs[k].x = true by simp [isVoid, h7])
    clear h7 HKT HKO
    obtain ⟨w6, hw6⟩ : ∃ w6, w6 = w5.alloc (.cells #[.int .i64 vs[k].x.target] 165) := ⟨_, rfl⟩
    have HXS := hI (show Ext w5 w6 by rw [hw6]; exact (Ext.refl _).alloc _)
    have HT6 := hI (show w6.heap[w5.heap.size]? = some (.cells #[.int .i64 vs[k].x.target] 165 (0, 0)) by rw [hw6]; exact alloc_new w5 _)
    have HX6 := hI (HX5.out.trans HXS.out)
    have HE6 := hI (HXS.out.blk HE5.out)
    have HM6 := hI (HM5.out.ext HXS.out)
    have HC6 := hI (HXS.out.blk HC5.out)
    have HD6 := hI (HXS.out.blk HD5.out)
    obtain ⟨f0, f1, f2, f3, f4, f5, f6, ff⟩ := blk7 HE6.out
    obtain ⟨g0, gf⟩ := blk1 HT6.out
    go_upto_region 6 with fail
    rw [<- hw6]
    clear hw6 HX5 HE5 HM5 HC5 HD5 HXS
    cases E1
    case false =>
     have HBAD := hI (show soundEvs [] l = false from soundEvs_bad (k := k + 1) (by rw [HOK.out, HV.out]; rfl))
     go_wp2_with (first
      | (at_lookup; refine wpList_map_get2 _ (by rfl) _ _ 163 rfl 3 4 keyedI uMapIB (zeroB _) (w.heap.size + 1 + 1) k _ rfl HM6.out _ _ rfl (keyI HFK.out.2) trivial ?_; rw [HG1.out])
      | (at_lookup; refine wpList_map_get2 _ (by rfl) _ _ 163 rfl 3 4 keyedI uMapIB (zeroB _) (w.heap.size + 1 + 1) k _ rfl HM6.out _ _ rfl (keyI HFK.out.1) trivial ?_; rw [HG2.out]))
     exact ⟨_, results_tmp rfl _ _ _, none, 0, 0, rfl, by rw [<- HL.out, effL_bad HBAD.out]; exact IsEvs.nil _, HX6.out⟩
    case true =>
     cases E2
     case true =>
      have HBAD := hI (show soundEvs [] l = false from soundEvs_bad (k := k + 1) (by rw [HOK.out, HV.out]; rfl))
      go_wp2_with (first
       | (at_lookup; refine wpList_map_get2 _ (by rfl) _ _ 163 rfl 3 4 keyedI uMapIB (zeroB _) (w.heap.size + 1 + 1) k _ rfl HM6.out _ _ rfl (keyI HFK.out.2) trivial ?_; rw [HG1.out])
       | (at_lookup; refine wpList_map_get2 _ (by rfl) _ _ 163 rfl 3 4 keyedI uMapIB (zeroB _) (w.heap.size + 1 + 1) k _ rfl HM6.out _ _ rfl (keyI HFK.out.1) trivial ?_; rw [HG2.out]))
      exact ⟨_, results_tmp rfl _ _ _, none, 0, 0, rfl, by rw [<- HL.out, effL_bad HBAD.out]; exact IsEvs.nil _, HX6.out⟩
     case false =>
      have HSK := hI (show soundEvs [] (l.take (k + 1)) = true by rw [HOK.out, HV.out]; rfl)
      go_wp2_with (first
       | (at_mapUpdate; refine wpList_map_put _ rfl _ _ _ 163 rfl 3 4 keyedI uMapIB (w.heap.size + 1 + 1) k _ rfl HM6.out ?c3 _ _ _ rfl rfl (keyI HFK.out.1) trivial ?_)
       | (at_lookup; refine wpList_map_get2 _ (by rfl) _ _ 163 rfl 3 4 keyedI uMapIB (zeroB _) (w.heap.size + 1 + 1) k _ rfl HM6.out _ _ rfl (keyI HFK.out.2) trivial ?_; rw [HG1.out])
       | (at_lookup; refine wpList_map_get2 _ (by rfl) _ _ 163 rfl 3 4 keyedI uMapIB (zeroB _) (w.heap.size + 1 + 1) k _ rfl HM6.out _ _ rfl (keyI HFK.out.1) trivial ?_; rw [HG2.out]))
      case c3 => unfold maxLen; omega
      intro w7 hm7 hc7
      have HX7 := hI (hc7.ext HX6.out (fun y hy => by simp only [List.mem_singleton] at hy; omega))
      have HM7 := hI (hm7.congr (fun x => numF_put ns _ x))
      have HC7 := hI (hc7.blk HC6.out (by simp only [List.mem_singleton]; omega))
      have HD7 := hI (hc7.blk HD6.out (by simp only [List.mem_singleton]; omega))
      clear hm7 hc7
      go_wp2_with fail
      go_roundw
      case rel =>
       refine ⟨k + 1, vs[k].x.number :: ns, by go_num, by omega, HSK.out, fun t => ?_, HM7.out, HC7.out, HD7.out, HX7.out⟩
       rw [List.any_cons, HNS.out, List.take_succ_eq_append_getElem hkl, List.any_append, HLK.out]
       simp [Bool.or_comm]
      case measure => simp [intOf]; omega
   have hta := HKO.out h7
   have HV := hI (show isVoid vs[k].x = false by simp [isVoid, h7])
   clear h7 HKT HKO
   obtain ⟨w6, hw6⟩ : ∃ w6, w6 = w5.alloc (.cells #[.int .i64 0] 165) := ⟨_, rfl⟩
   have HXS := hI (show Ext w5 w6 by rw [hw6]; exact (Ext.refl _).alloc _)
   have HT6 := hI (show w6.heap[w5.heap.size]? = some (.cells #[.int .i64 0] 165 (0, 0)) by rw [hw6]; exact alloc_new w5 _)
   have HX6 := hI (HX5.out.trans HXS.out)
   have HE6 := hI (HXS.out.blk HE5.out)
   have HM6 := hI (HM5.out.ext HXS.out)
   have HC6 := hI (HXS.out.blk HC5.out)
   have HD6 := hI (HXS.out.blk HD5.out)
   obtain ⟨f0, f1, f2, f3, f4, f5, f6, ff⟩ := blk7 HE6.out
   obtain ⟨g0, gf⟩ := blk1 HT6.out
   go_upto_region 6 with fail
   rw [<- hw6]
   clear hw6 HX5 HE5 HM5 HC5 HD5 HXS
   cases E2
   case true =>
    have HBAD := hI (show soundEvs [] l = false from soundEvs_bad (k := k + 1) (by rw [HOK.out, HV.out]; rfl))
    go_wp2_with (first
     | (at_lookup; refine wpList_map_get2 _ (by rfl) _ _ 163 rfl 3 4 keyedI uMapIB (zeroB _) (w.heap.size + 1 + 1) k _ rfl HM6.out _ _ rfl (keyI HFK.out.2) trivial ?_; rw [HG1.out])
     | (at_lookup; refine wpList_map_get2 _ (by rfl) _ _ 163 rfl 3 4 keyedI uMapIB (zeroB _) (w.heap.size + 1 + 1) k _ rfl HM6.out _ _ rfl (keyI HFK.out.1) trivial ?_; rw [HG2.out]))
    exact ⟨_, results_tmp rfl _ _ _, none, 0, 0, rfl, by rw [<- HL.out, effL_bad HBAD.out]; exact IsEvs.nil _, HX6.out⟩
   case false =>
    have HSK := hI (show soundEvs [] (l.take (k + 1)) = true by rw [HOK.out, HV.out]; rfl)
    go_wp2_with (first
     | (at_mapUpdate; refine wpList_map_put _ rfl _ _ _ 163 rfl 3 4 keyedI uMapIB (w.heap.size + 1 + 1) k _ rfl HM6.out ?c3 _ _ _ rfl rfl (keyI HFK.out.1) trivial ?_)
     | (at_lookup; refine wpList_map_get2 _ (by rfl) _ _ 163 rfl 3 4 keyedI uMapIB (zeroB _) (w.heap.size + 1 + 1) k _ rfl HM6.out _ _ rfl (keyI HFK.out.2) trivial ?_; rw [HG1.out])
     | (at_lookup; refine wpList_map_get2 _ (by rfl) _ _ 163 rfl 3 4 keyedI uMapIB (zeroB _) (w.heap.size + 1 + 1) k _ rfl HM6.out _ _ rfl (keyI HFK.out.1) trivial ?_; rw [HG2.out]))
    case c3 => unfold maxLen; omega
    intro w7 hm7 hc7
    have HX7 := hI (hc7.ext HX6.out (fun y hy => by simp only [List.mem_singleton] at hy; omega))
    have HM7 := hI (hm7.congr (fun x => numF_put ns _ x))
    have HC7 := hI (hc7.blk HC6.out (by simp only [List.mem_singleton]; omega))
    have HD7 := hI (hc7.blk HD6.out (by simp only [List.mem_singleton]; omega))
    clear hm7 hc7
    go_wp2_with fail
    go_roundw
    case rel =>
     refine ⟨k + 1, vs[k].x.number :: ns, by go_num, by omega, HSK.out, fun t => ?_, HM7.out, HC7.out, HD7.out, HX7.out⟩
     rw [List.any_cons, HNS.out, List.take_succ_eq_append_getElem hkl, List.any_append, HLK.out]
     simp [Bool.or_comm]
    case measure => simp [intOf]; omega
  have t1 : decide ((k : Int) < (n : Int)) = false := decide_eq_false (by omega)
  have hke : k = n := by omega
  have HSND := hI (show soundEvs [] l = true by have := HSO.out; rwa [hke, HN.out, List.take_length] at this)
  have HWO := hI HMP.out.lt
  obtain ⟨d0, d1, d2, d3, d4, d5, d6, df⟩ := blk7 (show wo.heap[w.heap.size]? = some (.cells #[.int .i64 c.id, .int .i64 c.policy, .int .i64 c.risk, .int .i64 c.hour, .int .i64 c.peril, .int .i64 c.area, .slice a n cap] 33 (0, 0)) from HC0.out)
  have hlt0 := blk_lt HC0.out
  clear hke HSO HNS HMP
  obtain ⟨wp, hwp⟩ : ∃ wp, wp = ((wo.alloc (.cells #[.slice none 0 0] 31)).alloc (.map #[] 0)).alloc (.cells #[.map (some (wo.heap.size + 1))] 163) := ⟨_, rfl⟩
  have HXP := hI (show Ext wo wp by rw [hwp]; exact (((Ext.refl _).alloc _).alloc _).alloc _)
  have hsz : wp.heap.size = wo.heap.size + 1 + 1 + 1 := by rw [hwp]; simp
  have HSZ := hI hsz
  have HP0 := hI (show wp.heap[wo.heap.size]? = some (.cells #[.slice none 0 0] 31 (0, 0)) by rw [hwp]; exact blk_alloc (blk_alloc (alloc_new wo _)))
  have HPM := hI (show MapAt wp 3 (wo.heap.size + 1) 0 (fun _ => none) by rw [hwp]; have := MapAt.made (wo.alloc (.cells #[.slice none 0 0] 31)) 3; rw [World.size_alloc] at this; exact this.ext ((Ext.refl _).alloc _))
  have HP1 := hI (show wp.heap[wo.heap.size + 1 + 1]? = some (.cells #[.map (some (wo.heap.size + 1))] 163 (0, 0)) by rw [hwp]; have := alloc_new ((wo.alloc (.cells #[.slice none 0 0] 31)).alloc (.map #[] 0)) (.cells #[.map (some (wo.heap.size + 1))] 163); rwa [World.size_alloc, World.size_alloc] at this)
  have HPC := hI (HXP.out.blk HC0.out)
  have HPH := hI (HXP.out.blk HC1.out)
  clear hsz d0 d1 d2 d3 d4 d5 d6 df hlt0 HC0 HC1
  obtain ⟨d0, d1, d2, d3, d4, d5, d6, df⟩ := blk7 (show wp.heap[w.heap.size]? = some (.cells #[.int .i64 c.id, .int .i64 c.policy, .int .i64 c.risk, .int .i64 c.hour, .int .i64 c.peril, .int .i64 c.area, .slice a n cap] 33 (0, 0)) from HPC.out)
  go_upto_region 12 with fail
  rw [<- hwp]
  clear hwp
  go_wp2_with fail
  refine (back_calls _ _ _ _).mono ?_
  rintro r w2 ⟨rfl, rfl⟩
  go_wp2_with fail
  obtain ⟨wS, hwS⟩ : ∃ wS, wS = wp.alloc (.cells #[.slice a n cap] 31) := ⟨_, rfl⟩
  have HXS := hI (show Ext wp wS by rw [hwS]; exact (Ext.refl _).alloc _)
  have HSS := hI (show wS.heap.size = wp.heap.size + 1 by rw [hwS]; simp)
  have HS0 := hI (show wS.heap[wp.heap.size]? = some (.cells #[.slice a n cap] 31 (0, 0)) by rw [hwS]; exact alloc_new wp _)
  rw [<- hwS]
  have HXW := hI ((HX.out.trans HXP.out).trans HXS.out)
  have HVN := hI (show n = vs.length by rw [HN.out, HVS.out, List.length_map])
  have hgood : ∀ v ∈ vs, goodV v := fun v hv => HFIT.out v.x (by rw [HVS.out]; exact List.mem_map.2 ⟨v, hv, rfl⟩)
  clear hwS d0 d1 d2 d3 d4 d5 d6 df
  refine (wpIn_wide (n := 6)).1 ?_
  refine wpIn_rangeFunc_box 13 71 (fun x : EvW => x.1.2.cells.toArray) rfl (by omega) (gf := 119) (lb := #[.pointer (some ⟨wp.heap.size, 0, none⟩)]) rfl trivial (enters_of Tryz.func119 (by kernel_rfl) rfl)
   (back_stops Fence.wide (6 - 1) trivial rfl (by omega) wp.heap.size w.heap.size a cap n vs HVN.out (by omega) hgood wS ?s1 HS0.out ?s2) KpB.t (KpB.b ?s3 ?s4) (Below.refl _ _) (fun _ => rfl)
   (EffI hour wo.heap.size (wo.heap.size + 1) (wo.heap.size + 1 + 1) (w.heap.size + 1) wp.heap.size (.slice a n cap) w) (effI_own ?s5 ?s6) ?s7 ?assign ?body ?done
  case s1 => exact HXW.out.size
  case s2 => exact (evRows_of HROWS.out).below HXW.out
  case s3 => exact HXW.out.size
  case s4 => have := HSS.out; omega
  case s5 => have := HSS.out; have := HSZ.out; omega
  case s6 => exact HXW.out.size
  case s7 => exact ⟨⟨.slice none 0 0, HXS.out.blk HP0.out, ⟨rfl, Or.inl ⟨rfl, rfl⟩⟩, by simp [stW, effFold]⟩, (HPM.out.ext HXS.out).congr (fun x => (numF_nil x).symm), HXS.out.blk HP1.out, HXS.out.blk HPH.out, HS0.out, HXW.out⟩
  case assign =>
   rintro l' pre ⟨⟨ix, xv⟩, hx⟩ W K hI hK
   obtain ⟨hrow, hmap, hb11, hbh, hbs, hB⟩ := hI
   obtain ⟨rv, hr1, hr2, hr3⟩ := hrow
   have HSW := hI (show wS.heap.size <= W.heap.size by have := hbs.lt; have := HSS.out; omega)
   have HK := hI (hK W.heap.size (W.alloc (.cells xv.cells.toArray 71)) ((KeepsOthers.alloc _ _).from _) ⟨(Below.refl _ W).alloc hB.size _, blk_alloc hbs |>.trans hbs.symm⟩ ⟨⟨rv, hr1.alloc _, hr2.alloc _, hr3⟩, hmap.ext ((Ext.refl W).alloc _), hb11.alloc _, hbh.alloc _, hbs.alloc _, hB.alloc hB.size _⟩ HSW.out (alloc_new W _))
   clear hK hmap hb11 hbh hbs hB hr1 hr2 hr3
   unfold actB encW EvV.val at HK
   unfold encW EvV.val
   unfold EvV.cells at HK
   dsimp only at HK ⊢
   gi_wp2
   have HK2 := HK.out
   simp at HK2
   exact HK2
  case body =>
   rintro l' pre ⟨⟨ix, xv⟩, hx⟩ Bx W ⟨⟨rv, hr1, hr2, hr3⟩, hmap, hb11, hbh, hbs, hB⟩ hBx hbx hlt
   have HST := hI (stW_snoc hour pre ⟨(ix, xv), hx⟩)
   have HKL := hI (stW_len hour pre)
   obtain ⟨V, hV⟩ : ∃ V, V = (stW hour pre).1 := ⟨_, rfl⟩
   obtain ⟨KP, hKP⟩ : ∃ KP, KP = (stW hour pre).2 := ⟨_, rfl⟩
   have hsp : stW hour pre = (V, KP) := by rw [hV, hKP]
   rw [hsp] at HST HKL
   rw [<- hV] at hmap
   rw [<- hKP] at hr2 hr3
   obtain ⟨kn, hkn⟩ : ∃ kn, kn = KP.length := ⟨_, rfl⟩
   obtain ⟨pn, hpn⟩ : ∃ pn, pn = pre.length := ⟨_, rfl⟩
   rw [<- hkn] at hr2
   rw [<- hpn] at hmap hlt
   have hknl : kn <= pn := by have := HKL.out; simp only at this; omega
   have HKN := hI hkn
   have HPN := hI hpn
   have HR2 := hI hr2
   have HR1 := hI hr1
   have HB1 := hI hb11
   have HH1 := hI hbh
   have HR3 := hI hr3
   have HMP := hI hmap
   have HBS := hI hbs
   have HBX := hI (show W.heap[Bx]? = some (.cells #[.int .i64 xv.x.number, .int .i64 xv.x.known, .int .i64 xv.x.kind, .slice xv.a xv.n xv.c, .int .i64 xv.x.cur, .int .i64 xv.x.amount, .int .i64 xv.x.target] 71 (0, 0)) from hbx)
   have HBW := hI hB
   obtain ⟨x0, x1, x2, x3, x4, x5, x6, xf⟩ := blk7 HBX.out
   have c10 := hr1.cell
   have c11 := hb11.cell
   have chh := hbh.cell
   have hlt0 := blk_lt HBX.out
   obtain ⟨E, hE⟩ : ∃ E, E = V.any (· == xv.x.number) := ⟨_, rfl⟩
   have HG := hI (numF_get V xv.x.number)
   rw [<- hE] at HG
   have HEE := hI hE
   clear hE hV hKP hsp hkn hpn hr1 hr2 hr3 hb11 hbh hmap hbs hbx hB HKL
   unfold actB encW EvV.val
   dsimp only
   by_cases hk1 : hour < xv.x.known
   ·have tk : decide (hour < xv.x.known) = true := decide_eq_true hk1
    have HS2 := hI (show stW hour (pre ++ [⟨(ix, xv), hx⟩]) = (V, KP) by rw [HST.out, effStep, if_pos (Or.inl hk1)])
    clear hk1
    gi_wp2
    exact ⟨KeepsFrom.refl _ _, KpB.refl _ _ _, ⟨rv, HR1.out, by rw [HS2.out, <- HKN.out]; exact HR2.out, by rw [HS2.out]; exact HR3.out⟩, by rw [HS2.out, List.length_append, <- HPN.out]; exact HMP.out.more (by simp), HB1.out, HH1.out, HBS.out, HBW.out⟩
   have tk : decide (hour < xv.x.known) = false := decide_eq_false hk1
   cases E
   case true =>
    have HS2 := hI (show stW hour (pre ++ [⟨(ix, xv), hx⟩]) = (V, KP) by rw [HST.out, effStep, if_pos (Or.inr HEE.out.symm)])
    clear hk1
    gi_wp2_with (gi_at_lookup; refine wpListIn_map_get2 _ (by rfl) _ _ 163 rfl 3 4 keyedI uMapIB (zeroB _) (wo.heap.size + 1) pn _ rfl HMP.out _ _ rfl (keyI hx.1) trivial ?_; rw [HG.out])
    exact ⟨KeepsFrom.refl _ _, KpB.refl _ _ _, ⟨rv, HR1.out, by rw [HS2.out, <- HKN.out]; exact HR2.out, by rw [HS2.out]; exact HR3.out⟩, by rw [HS2.out, List.length_append, <- HPN.out]; exact HMP.out.more (by simp), HB1.out, HH1.out, HBS.out, HBW.out⟩
   case false =>
    have HS2 := hI (show stW hour (pre ++ [⟨(ix, xv), hx⟩]) = (if isVoid xv.x then xv.x.target :: V else V, KP ++ [xv]) by rw [HST.out, effStep, if_neg (by rintro (h | h); exact hk1 h; rw [<- HEE.out] at h; cases h)])
    have HK := hI (fun W => kindOf_calls xv W)
    unfold EvV.val at HK
    have HKT := hI (fun (h : xv.x.kind = 7) => kind_void h)
    have HKO := hI (fun (h : xv.x.kind ≠ 7) => kind_other h)
    obtain ⟨KV, hKV⟩ : ∃ KV, KV = kindV xv := ⟨_, rfl⟩
    rw [<- hKV] at HK HKT HKO
    obtain ⟨i0, hi0, hz0, hz1, hz2⟩ := info_parts elemEv.info
    clear hk1 hKV
    by_cases h7 : xv.x.kind = 7
    ·have hta := HKT.out h7
     have HS3 := hI (show stW hour (pre ++ [⟨(ix, xv), hx⟩]) = (xv.x.target :: V, KP ++ [xv]) by rw [HS2.out, if_pos (by simp [isVoid, h7])])
     clear h7 HKT HKO
     gi_wp2_with (gi_at_lookup; refine wpListIn_map_get2 _ (by rfl) _ _ 163 rfl 3 4 keyedI uMapIB (zeroB _) (wo.heap.size + 1) pn _ rfl HMP.out _ _ rfl (keyI hx.1) trivial ?_; rw [HG.out])
     refine ⟨trivial, ?_⟩
     refine (CallsIn.inRound l' (callsIn_wide.2 (HK.out W))).mono ?_
     rintro r w5 ⟨rfl, hx5⟩
     have HX5 := hI hx5
     have HM5 := hI (HMP.out.ext hx5)
     have HR5 := hI (owns_ext HR2.out hx5)
     have HR15 := hI (Boxed.ext HR1.out hx5)
     have HB15 := hI (Boxed.ext HB1.out hx5)
     have HH15 := hI (Boxed.ext HH1.out hx5)
     have HS15 := hI (Boxed.ext HBS.out hx5)
     have cc10 := HR15.out.cell
     have cc11 := HB15.out.cell
     have hblt := HR15.out.lt
     have hblt2 := HB15.out.lt
     obtain ⟨y0, y1, y2, y3, y4, y5, y6, yf⟩ := blk7 (hx5.blk HBX.out)
     have hlt5 := blk_lt (hx5.blk HBX.out)
     have HBW5 := hI (HBW.out.trans (hx5.mono HBW.out.size))
     have hwsz := HBW5.out.size
     clear hx5 c10 c11 chh x0 x1 x2 x3 x4 x5 x6 xf hlt0
     gi_wp2_with (gi_at_mapUpdate; refine wpListIn_map_put _ rfl _ _ _ 163 rfl 3 4 keyedI uMapIB (wo.heap.size + 1) pn _ rfl (HM5.out.ext ((Ext.refl _).alloc _)) (by unfold maxLen; omega) _ _ _ rfl rfl (keyI hx.2) trivial ?_)
     intro w7 hm7 hg7
     have HM7 := hI (hm7.congr (fun x => numF_put V _ x))
     have HR17 := hI ((HR15.out.alloc _).kept hg7 (fun e => by simp at e))
     have HB17 := hI ((HB15.out.alloc _).kept hg7 (fun e => by simp at e))
     have HH17 := hI ((HH15.out.alloc _).kept hg7 (fun e => by have := HWO.out; simp at e; omega))
     have HS17 := hI ((HS15.out.alloc _).kept hg7 (fun e => by have := HSZ.out; simp at e; omega))
     have HRW7 := hI ((HR5.out.alloc _).kept hg7 (.inr (HM5.out.not_row HR5.out).symm))
     have HBW7 := hI ((HBW5.out.alloc HBW5.out.size _).grown hg7 (HBW5.out.alloc HBW5.out.size _).size (fun j e => by cases e; have := HWO.out; omega))
     have HKF7 := hI (((HX5.out.keepsFrom wS.heap.size).trans ((KeepsOthers.alloc _ _).from _)).trans (KeepsFrom.of_grownBy hg7 (fun j e => by cases e; have := HSS.out; have := HSZ.out; omega)))
     have HBX7 := hI (((HX5.out.mono HBW.out.size).alloc HBW5.out.size _).grown hg7 (HBW5.out.alloc HBW5.out.size _).size (fun j e => by cases e; have := HWO.out; omega))
     have dc10 := HR17.out.cell
     have hdlt := HR17.out.lt
     obtain ⟨z0, z1, z2, z3, z4, z5, z6, zf⟩ := blk7 ((hg7.block Bx (by simp; omega) (fun e => by simp at e; have := HSS.out; have := HSZ.out; omega)).trans (blk_alloc (HX5.out.blk HBX.out)))
     have hzlt := HBW7.out.size
     have hz7 := hg7.size
     rw [World.size_alloc] at hz7
     clear hm7 hg7 cc10 cc11 y0 y1 y2 y3 y4 y5 y6 yf
     gi_wp2_with (gi_at_builtin; refine wpListIn_append_own _ rfl _ _ 31 rfl w.heap.size 71 i0 zEv 7 72 elemEv.ht hi0 hz0 hz1 hz2 elemEv.hzs elemEv.hsz rv kn _ rfl (HRW7.out.alloc _) _ 1 1 xv.cells rfl rfl (cells_new_at _ xv.cells _ (by simp)) (cells_oneE xv) (by unfold maxLen; omega) (by omega) ?b3 ?_)
     case b3 => simp; omega
     intro v' w9 hown' hgrow hnn
     have HE := hI (eff_end (S := wS.heap.size) (x := ⟨(ix, xv), hx⟩) HS3.out HKN.out HPN.out HR17.out HRW7.out HM7.out HB17.out HH17.out HS17.out HBW7.out HKF7.out HBX7.out HBS.out hown' hgrow (by omega) (by have := HWO.out; omega) (by have := HSZ.out; omega) (by omega) (by have := HWO.out; omega))
     have hv1 := (Boxed.appended HR17.out (by decide) HRW7.out HBW7.out.size (by have := HWO.out; omega) hown' hgrow).1
     obtain ⟨g', cap', rfl⟩ := ownsRow_succ hown'
     have hc1 := hv1.cell
     have hf1 := hv1.frozen
     clear hown' hgrow hnn
     gi_wp2
     exact HE.out
    have hta := HKO.out h7
    have HS3 := hI (show stW hour (pre ++ [⟨(ix, xv), hx⟩]) = (V, KP ++ [xv]) by rw [HS2.out, if_neg (by simp [isVoid, h7])])
    clear h7 HKT HKO
    gi_wp2_with (gi_at_lookup; refine wpListIn_map_get2 _ (by rfl) _ _ 163 rfl 3 4 keyedI uMapIB (zeroB _) (wo.heap.size + 1) pn _ rfl HMP.out _ _ rfl (keyI hx.1) trivial ?_; rw [HG.out])
    refine ⟨trivial, ?_⟩
    refine (CallsIn.inRound l' (callsIn_wide.2 (HK.out W))).mono ?_
    rintro r w5 ⟨rfl, hx5⟩
    have HX5 := hI hx5
    have HM5 := hI (HMP.out.ext hx5)
    have HR5 := hI (owns_ext HR2.out hx5)
    have HR15 := hI (Boxed.ext HR1.out hx5)
    have HB15 := hI (Boxed.ext HB1.out hx5)
    have HH15 := hI (Boxed.ext HH1.out hx5)
    have HS15 := hI (Boxed.ext HBS.out hx5)
    have cc10 := HR15.out.cell
    have cc11 := HB15.out.cell
    have hblt := HR15.out.lt
    have hblt2 := HB15.out.lt
    obtain ⟨y0, y1, y2, y3, y4, y5, y6, yf⟩ := blk7 (hx5.blk HBX.out)
    have hlt5 := blk_lt (hx5.blk HBX.out)
    have HBW5 := hI (HBW.out.trans (hx5.mono HBW.out.size))
    have hwsz := HBW5.out.size
    clear hx5 c10 c11 chh x0 x1 x2 x3 x4 x5 x6 xf hlt0
    gi_wp2_with (gi_at_builtin; refine wpListIn_append_own _ rfl _ _ 31 rfl w.heap.size 71 i0 zEv 7 72 elemEv.ht hi0 hz0 hz1 hz2 elemEv.hzs elemEv.hsz rv kn _ rfl ((HR5.out.alloc _).alloc _) _ 1 1 xv.cells rfl rfl (cells_new_at _ xv.cells _ (by simp)) (cells_oneE xv) (by unfold maxLen; omega) (by omega) ?b3 ?_)
    case b3 => simp; omega
    intro v' w9 hown' hgrow hnn
    have HE := hI (eff_end (S := wS.heap.size) (x := ⟨(ix, xv), hx⟩) HS3.out HKN.out HPN.out (HR15.out.alloc _) (HR5.out.alloc _) ((HM5.out.more (Nat.le_succ pn)).ext ((Ext.refl _).alloc _)) (HB15.out.alloc _) (HH15.out.alloc _) (HS15.out.alloc _) (HBW5.out.alloc HBW5.out.size _) ((HX5.out.keepsFrom _).trans ((KeepsOthers.alloc _ _).from _)) ((HX5.out.mono HBW.out.size).alloc HBW5.out.size _) HBS.out hown' hgrow (by omega) (by have := HWO.out; omega) (by have := HSZ.out; omega) (by omega) (by have := HWO.out; omega))
    have hv1 := (Boxed.appended (HR15.out.alloc _) (by decide) (HR5.out.alloc _) (HBW5.out.alloc HBW5.out.size _).size (by have := HWO.out; omega) hown' hgrow).1
    obtain ⟨g', cap', rfl⟩ := ownsRow_succ hown'
    have hc1 := hv1.cell
    have hf1 := hv1.frozen
    clear hown' hgrow hnn
    gi_wp2
    exact HE.out
  case done =>
   rintro D xs W hD rfl ⟨⟨rv, hr1, hr2, hr3⟩, hmap, hb11, hbh, hbs, hB⟩ hK
   obtain ⟨KP, hKP⟩ : ∃ KP, KP = (stW hour (uptoL (bwd vs hgood) n)).2 := ⟨_, rfl⟩
   rw [<- hKP] at hr2 hr3
   have hkp2 : KP = (effFold hour vs.reverse).2 := by rw [hKP, stW, HVN.out, upto_bwd]
   have HRES := hI (show effL c.events hour = (KP.reverse).map (·.x) by
    have hs := HSND.out
    rw [HVS.out] at hs
    rw [<- HL.out, HVS.out, hkp2]
    exact effL_fold hs)
   have HMEM := hI (show ∀ v ∈ KP.reverse, v ∈ vs from fun v hv => by
    rw [List.mem_reverse, hkp2] at hv
    simpa using effFold_mem hour vs.reverse v hv)
   have hkl : KP.length <= n := by
    rw [hkp2, HVN.out]
    simpa using (effFold_len hour vs.reverse).1
   obtain ⟨kn, hkn⟩ : ∃ kn, kn = KP.length := ⟨_, rfl⟩
   rw [<- hkn] at hr2 hkl
   have HKN := hI hkn
   have HB := hI hB
   have HKD := hI hK
   have HR1 := hI hr1
   have HR2 := hI hr2
   clear hKP hkp2 hkn hmap hb11 hbh hbs hB
   rcases hr2.2 with ⟨rfl, h0⟩ | ⟨g, kc, cur, rfl, hg, hgb, hgle, hrest⟩
   ·have hkn0 : KP = [] := List.eq_nil_of_length_eq_zero (by rw [<- HKN.out]; exact h0)
    have c10 := hr1.cell
    have HREV := hI (fun W => AnyQ.slices_Reverse_empty Tryz.revEv none 0 W)
    clear hr1 hr2 hr3 hK h0
    gi_wp2
    go_wp2_with fail
    refine (HREV.out W).mono ?_
    rintro r w3 ⟨rfl, rfl⟩
    go_wp2_with fail
    refine ⟨by simp, .inl ⟨_, _, rfl, run_takeDeferred HKD.out, ?_⟩⟩
    exact ⟨_, results_tmp rfl _ _ _, none, 0, 0, rfl, by rw [HRES.out, hkn0]; exact IsEvs.nil _, HB.out.trans (belowK_b (w := w) (Nat.le_refl _) w3 D _ _ (by have := HXW.out.size; omega) HKD.out rfl rfl)⟩
   have c10 := hr1.cell
   have hgB : wo.heap.size ≠ g := fun e => hr1.not_row (by decide) hr2 (by rw [e]; rfl)
   have hgD : D ≠ g := fun e => by subst e; rw [HKD.out] at hgb; cases hgb
   have hbl := hr1.lt
   have HREV := hI (rev_calls (n := kn) (c := kc) HKN.out hgle (by omega) (by rw [<- HKN.out]; exact hr2))
   clear hr1 hr2 hr3 hK hrest hgb
   gi_wp2
   go_wp2_with fail
   refine HREV.out.mono ?_
   rintro r w3 ⟨rfl, hrows3, hc3, hsz3⟩
   have HR3 := hI (hc3.blk HR1.out (by simp only [List.mem_singleton]; exact hgB))
   have HK3 := hI (show w3.heap[D]? = some (.deferred (some [])) from hc3.blk HKD.out (by simp only [List.mem_singleton]; exact hgD))
   have HX3 := hI (show Ext w w3 from hc3.ext HB.out (fun y hy => by simp only [List.mem_singleton] at hy; omega))
   have HROW3 := hI hrows3
   obtain ⟨q0, qf⟩ := blk1 HR3.out
   clear hrows3 hc3 hsz3 c10
   go_wp2_with fail
   refine ⟨by simp, .inl ⟨_, _, rfl, run_takeDeferred HK3.out, ?_⟩⟩
   have hsub := putObj_sub (o' := .deferred none) HK3.out rfl
   have hxf : Ext w (w3.putObj D (.deferred none)) := Below.trans HX3.out (belowK_b (w := w) (Nat.le_refl _) w3 D _ _ (by have := HXW.out.size; omega) HK3.out rfl rfl)
   refine ⟨_, results_tmp rfl _ _ _, some ⟨g, 0, none⟩, kn, kc, rfl, ?_, hxf⟩
   rw [HRES.out]
   exact ⟨KP.reverse, HROW3.out.mono hsub, rfl, fun v hv => (HITS.out v (HMEM.out v hv)).ext hxf⟩
open Go.RowKit
theorem evErr_at {s : List Attr} {l : List Ev} {k : Nat} (hk : k < l.length) : evErr s (l.take k) (l.getD k ev0) = evErr s (l.take k) l[k] := by rw [List.getD_eq_getElem?_getD, List.getElem?_eq_getElem hk]; rfl
theorem evsErr_hit {s : List Attr} {l : List Ev} {k : Nat} (hk : k < l.length) (h0 : ∀ j (h : j < l.length), j < k -> evErr s (l.take j) l[j] = 0) (h : evErr s (l.take k) l[k] ≠ 0) : evsErr s l = evErr s (l.take k) l[k] := by
 unfold evsErr
 rw [firstI_hit (k := k) (by rw [evErr_at hk]; exact h) (fun j hj => by rw [evErr_at (show j < l.length by omega)]; exact h0 j _ hj) l.length hk]
 exact evErr_at hk
theorem evsErr_zero {s : List Attr} {l : List Ev} (h0 : ∀ j (h : j < l.length), evErr s (l.take j) l[j] = 0) : evsErr s l = 0 := by
 unfold evsErr
 rw [firstI_zero l.length fun j hj => by rw [evErr_at hj]; exact h0 j hj]
theorem clm_schema {s : List Attr} {c : Clm} (h : schemaErr s ≠ 0) : clmErr s c = schemaErr s := by unfold clmErr; rw [if_pos h]
theorem clm_ids {s : List Attr} {c : Clm} (h : schemaErr s = 0) (h1 : idsB c = false) : clmErr s c = 1 := by unfold clmErr; rw [if_neg (by simp [h]), if_pos h1]
theorem clm_many {s : List Attr} {c : Clm} (h : schemaErr s = 0) (h1 : idsB c = true) (h2 : 64 < c.events.length) : clmErr s c = 4 := by unfold clmErr; rw [if_neg (by simp [h]), if_neg (by simp [h1]), if_pos h2]
theorem clm_evs {s : List Attr} {c : Clm} (h : schemaErr s = 0) (h1 : idsB c = true) (h2 : ¬ 64 < c.events.length) : clmErr s c = evsErr s c.events := by unfold clmErr; rw [if_neg (by simp [h]), if_neg (by simp [h1]), if_neg h2]
def fewEv (x : Ev) : Prop := x.items.length <= 1000000000000000 /\ ∀ y ∈ x.items, y.facts.length <= 1000000000000000
def ClmBox (c : Clm) (a : OA) (n cap : Nat) : Obj := .cells #[.int .i64 c.id, .int .i64 c.policy, .int .i64 c.risk, .int .i64 c.hour, .int .i64 c.peril, .int .i64 c.area, .slice a n cap] 33 (0, 0)
theorem cvalidate_calls (s : List Attr) (v : Value) (c : Clm) (a : OA) (n cap : Nat) (w : World) (hs : IsSchema w s v) (hf : ∀ x ∈ s, x.fits) (hl : s.length <= 1000000000000000) (hi : IsEvs w c.events a n cap) (hn2 : n <= 1000000000000000) (hfew : ∀ x ∈ c.events, fewEv x) :
  Calls Tryz.prog 30 #[v, ClmArg c a n cap] w (GivesE (.int .i64 (clmErr s c)) w) := by
 obtain ⟨sa, sn, sc, rfl, hsn⟩ := hs.slice
 have HS := hI hs
 have HI := hI hi
 have HN := hI hi.len
 have HF := hI hf
 have HFEW := hI hfew
 obtain ⟨R, hR⟩ : ∃ R, R = clmErr s c := ⟨_, rfl⟩
 rw [<- hR]
 have HR := hI hR
 clear hs hi hf hfew hR hsn
 obtain ⟨wa, hwa⟩ : ∃ wa, wa = (w.alloc (.cells #[.slice sa sn sc] 25)).alloc (.cells #[.int .i64 c.id, .int .i64 c.policy, .int .i64 c.risk, .int .i64 c.hour, .int .i64 c.peril, .int .i64 c.area, .slice a n cap] 33) := ⟨_, rfl⟩
 have HX0 := hI (show Ext w wa by rw [hwa]; exact ((Ext.refl _).alloc _).alloc _)
 have HS0 := hI (show wa.heap[w.heap.size]? = some (.cells #[.slice sa sn sc] 25 (0, 0)) by rw [hwa]; exact blk_alloc (alloc_new w _))
 have HB0 := hI (show wa.heap[w.heap.size + 1]? = some (.cells #[.int .i64 c.id, .int .i64 c.policy, .int .i64 c.risk, .int .i64 c.hour, .int .i64 c.peril, .int .i64 c.area, .slice a n cap] 33 (0, 0)) by
  rw [hwa]; have := alloc_new (w.alloc (.cells #[.slice sa sn sc] 25)) (.cells #[.int .i64 c.id, .int .i64 c.policy, .int .i64 c.risk, .int .i64 c.hour, .int .i64 c.peril, .int .i64 c.area, .slice a n cap] 33); rwa [World.size_alloc] at this)
 have HSV := hI (sValidate_calls s (.agg #[.slice sa sn sc]) wa (HS.out.ext HX0.out) HF.out hl)
 obtain ⟨E, hE⟩ : ∃ E, E = schemaErr s := ⟨_, rfl⟩
 rw [<- hE] at HSV
 have HEE := hI hE
 have HW0 := hI (fun W => cwithin_calls 1 1048576 c.id W)
 obtain ⟨N0, hN0⟩ : ∃ N0, N0 = inB 1 1048576 c.id := ⟨_, rfl⟩
 rw [<- hN0] at HW0
 have HW1 := hI (fun W => cwithin_calls 1 1048576 c.policy W)
 obtain ⟨N1, hN1⟩ : ∃ N1, N1 = inB 1 1048576 c.policy := ⟨_, rfl⟩
 rw [<- hN1] at HW1
 have HW2 := hI (fun W => cwithin_calls 1 1048576 c.risk W)
 obtain ⟨N2, hN2⟩ : ∃ N2, N2 = inB 1 1048576 c.risk := ⟨_, rfl⟩
 rw [<- hN2] at HW2
 have HW3 := hI (fun W => cwithin_calls 0 876599 c.hour W)
 obtain ⟨N3, hN3⟩ : ∃ N3, N3 = inB 0 876599 c.hour := ⟨_, rfl⟩
 rw [<- hN3] at HW3
 have HW4 := hI (fun W => cwithin_calls 0 15 c.peril W)
 obtain ⟨N4, hN4⟩ : ∃ N4, N4 = inB 0 15 c.peril := ⟨_, rfl⟩
 rw [<- hN4] at HW4
 have HW5 := hI (fun W => cwithin_calls 0 15 c.area W)
 obtain ⟨N5, hN5⟩ : ∃ N5, N5 = inB 0 15 c.area := ⟨_, rfl⟩
 rw [<- hN5] at HW5
 have HIDS := hI (show idsB c = (N0 && N1 && N2 && N3 && N4 && N5) by rw [hN0, hN1, hN2, hN3, hN4, hN5]; rfl)
 clear hE hN0 hN1 hN2 hN3 hN4 hN5
 obtain ⟨s0, sf⟩ := blk1 HS0.out
 obtain ⟨f0, f1, f2, f3, f4, f5, f6, ff⟩ := blk7 HB0.out
 unfold ClmArg
 go_enter Tryz.func30, Tryz.ntmps30
 go_upto_region 1 with fail
 rw [<- hwa]
 clear hwa
 go_wp2_with fail
 refine HSV.out.mono ?_
 rintro r w1 ⟨rfl, hx1⟩
 have HXA := hI (HX0.out.trans hx1)
 have HSA := hI (hx1.blk HS0.out)
 have HBA := hI (hx1.blk HB0.out)
 obtain ⟨g0, g1, g2, g3, g4, g5, g6, gf⟩ := blk7 HBA.out
 obtain ⟨t0, tf⟩ := blk1 HSA.out
 have hlt1 := blk_lt HBA.out
 clear hx1 f0 f1 f2 f3 f4 f5 f6 ff s0 sf HS0 HB0 HX0 HSV
 by_cases he : E = 0
 case neg =>
  have tz : (E != 0) = true := by simp [he]
  have HQ := hI (HR.out.trans ((clm_schema (by rw [<- HEE.out]; exact he)).trans HEE.out.symm))
  go_wp2_with fail
  go_ret
  exact givesE_of (by rw [HQ.out]) HXA.out
 have tz : (E != 0) = false := by simp [he]
 have HZ := hI (show schemaErr s = 0 by rw [<- HEE.out]; exact he)
 clear he
 go_wp2_with fail
 refine (HW0.out w1).mono ?_
 rintro r w2 ⟨rfl, hx2⟩
 have HXB := hI (HXA.out.trans hx2)
 have HSB := hI (hx2.blk HSA.out)
 have HBB := hI (hx2.blk HBA.out)
 obtain ⟨f0, f1, f2, f3, f4, f5, f6, ff⟩ := blk7 HBB.out
 obtain ⟨s0, sf⟩ := blk1 HSB.out
 have hlt2 := blk_lt HBB.out
 clear hx2 g0 g1 g2 g3 g4 g5 g6 gf t0 tf hlt1 HXA HSA HBA HW0
 cases N0
 ·have HQ := hI (HR.out.trans (clm_ids HZ.out (by rw [HIDS.out]; simp)))
  go_wp2_with fail
  go_ret
  exact givesE_of (by rw [HQ.out]) HXB.out
 go_wp2_with fail
 refine (HW1.out w2).mono ?_
 rintro r w3 ⟨rfl, hx3⟩
 have HXC := hI (HXB.out.trans hx3)
 have HSC := hI (hx3.blk HSB.out)
 have HBC := hI (hx3.blk HBB.out)
 obtain ⟨g0, g1, g2, g3, g4, g5, g6, gf⟩ := blk7 HBC.out
 obtain ⟨t0, tf⟩ := blk1 HSC.out
 have hlt3 := blk_lt HBC.out
 clear hx3 f0 f1 f2 f3 f4 f5 f6 ff s0 sf hlt2 HXB HSB HBB HW1
 cases N1
 ·have HQ := hI (HR.out.trans (clm_ids HZ.out (by rw [HIDS.out]; simp)))
  go_wp2_with fail
  go_ret
  exact givesE_of (by rw [HQ.out]) HXC.out
 go_wp2_with fail
 refine (HW2.out w3).mono ?_
 rintro r w4 ⟨rfl, hx4⟩
 have HXD := hI (HXC.out.trans hx4)
 have HSD := hI (hx4.blk HSC.out)
 have HBD := hI (hx4.blk HBC.out)
 obtain ⟨f0, f1, f2, f3, f4, f5, f6, ff⟩ := blk7 HBD.out
 obtain ⟨s0, sf⟩ := blk1 HSD.out
 have hlt4 := blk_lt HBD.out
 clear hx4 g0 g1 g2 g3 g4 g5 g6 gf t0 tf hlt3 HXC HSC HBC HW2
 cases N2
 ·have HQ := hI (HR.out.trans (clm_ids HZ.out (by rw [HIDS.out]; simp)))
  go_wp2_with fail
  go_ret
  exact givesE_of (by rw [HQ.out]) HXD.out
 go_wp2_with fail
 refine (HW3.out w4).mono ?_
 rintro r w5 ⟨rfl, hx5⟩
 have HXE := hI (HXD.out.trans hx5)
 have HSE := hI (hx5.blk HSD.out)
 have HBE := hI (hx5.blk HBD.out)
 obtain ⟨g0, g1, g2, g3, g4, g5, g6, gf⟩ := blk7 HBE.out
 obtain ⟨t0, tf⟩ := blk1 HSE.out
 have hlt5 := blk_lt HBE.out
 clear hx5 f0 f1 f2 f3 f4 f5 f6 ff s0 sf hlt4 HXD HSD HBD HW3
 cases N3
 ·have HQ := hI (HR.out.trans (clm_ids HZ.out (by rw [HIDS.out]; simp)))
  go_wp2_with fail
  go_ret
  exact givesE_of (by rw [HQ.out]) HXE.out
 go_wp2_with fail
 refine (HW4.out w5).mono ?_
 rintro r w6 ⟨rfl, hx6⟩
 have HXF := hI (HXE.out.trans hx6)
 have HSF := hI (hx6.blk HSE.out)
 have HBF := hI (hx6.blk HBE.out)
 obtain ⟨f0, f1, f2, f3, f4, f5, f6, ff⟩ := blk7 HBF.out
 obtain ⟨s0, sf⟩ := blk1 HSF.out
 have hlt6 := blk_lt HBF.out
 clear hx6 g0 g1 g2 g3 g4 g5 g6 gf t0 tf hlt5 HXE HSE HBE HW4
 cases N4
 ·have HQ := hI (HR.out.trans (clm_ids HZ.out (by rw [HIDS.out]; simp)))
  go_wp2_with fail
  go_ret
  exact givesE_of (by rw [HQ.out]) HXF.out
 go_wp2_with fail
 refine (HW5.out w6).mono ?_
 rintro r w7 ⟨rfl, hx7⟩
 have HXG := hI (HXF.out.trans hx7)
 have HSG := hI (hx7.blk HSF.out)
 have HBG := hI (hx7.blk HBF.out)
 obtain ⟨g0, g1, g2, g3, g4, g5, g6, gf⟩ := blk7 HBG.out
 obtain ⟨t0, tf⟩ := blk1 HSG.out
 have hlt7 := blk_lt HBG.out
 clear hx7 f0 f1 f2 f3 f4 f5 f6 ff s0 sf hlt6 HXF HSF HBF HW5
 cases N5
 ·have HQ := hI (HR.out.trans (clm_ids HZ.out (by rw [HIDS.out]; simp)))
  go_wp2_with fail
  go_ret
  exact givesE_of (by rw [HQ.out]) HXG.out
 have HID := hI (show idsB c = true by rw [HIDS.out]; rfl)
 by_cases hm : 64 < n
 ·have tm : decide ((64 : Int) < (n : Int)) = true := decide_eq_true (by omega)
  have HQ := hI (HR.out.trans (clm_many HZ.out HID.out (by have := HN.out; omega)))
  go_wp2_with fail
  go_ret
  exact givesE_of (by rw [HQ.out]) HXG.out
 have tm : decide ((64 : Int) < (n : Int)) = false := decide_eq_false (by omega)
 have HQ := hI (HR.out.trans (clm_evs HZ.out HID.out (by have := HN.out; omega)))
 go_wp2_with fail
 go_loopw [55] (fun t wr => ∃ k : Nat, t = .int .i64 k /\ k <= n /\ (∀ j (h : j < c.events.length), j < k -> evErr s (c.events.take j) c.events[j] = 0) /\ wr.heap[w.heap.size]? = some (.cells #[.slice sa sn sc] 25 (0, 0)) /\ wr.heap[w.heap.size + 1]? = some (ClmBox c a n cap) /\ Ext w wr) (fun t _ => n - (intOf t).toNat)
 case atStart => exact ⟨0, rfl, by omega, fun j _ h => by omega, HSG.out, HBG.out, HXG.out⟩
 case round =>
  obtain ⟨k, rfl, hk, hno, hsx, hbx, hx⟩ := hrel
  obtain ⟨wo, rfl⟩ : ∃ wo : World, wo = wr := ⟨_, rfl⟩
  have HNO := hI hno
  have HSX := hI hsx
  have HBX := hI hbx
  have HX := hI hx
  clear hno hsx hbx hx
  by_cases hkn : k < n
  ·have hkl : k < c.events.length := by have := HN.out; omega
   have t1 : decide ((k : Int) < (n : Int)) = true := decide_eq_true (by omega)
   obtain ⟨b, off, xv, rfl, hvx, hits, hrow⟩ := (HI.out.ext HX.out).at hkl
   obtain ⟨c0, c1, c2, c3, c4, c5, c6⟩ := hrow.seven
   have HITS := hI hits
   have HVX := hI hvx
   have hin : xv.n <= 1000000000000000 := by have := hits.len; have := (HFEW.out _ (List.getElem_mem hkl)).1; omega
   obtain ⟨wb, hwb⟩ : ∃ wb, wb = wo.alloc (.cells #[.int .i64 xv.x.number, .int .i64 xv.x.known, .int .i64 xv.x.kind, .slice xv.a xv.n xv.c, .int .i64 xv.x.cur, .int .i64 xv.x.amount, .int .i64 xv.x.target] 71) := ⟨_, rfl⟩
   have HXB := hI (show Ext wo wb by rw [hwb]; exact (Ext.refl _).alloc _)
   have HBE := hI (show wb.heap[wo.heap.size]? = some (.cells #[.int .i64 xv.x.number, .int .i64 xv.x.known, .int .i64 xv.x.kind, .slice xv.a xv.n xv.c, .int .i64 xv.x.cur, .int .i64 xv.x.amount, .int .i64 xv.x.target] 71 (0, 0)) by rw [hwb]; exact alloc_new wo _)
   have HSB := hI (HXB.out.blk HSX.out)
   have HBB := hI (HXB.out.blk HBX.out)
   have HV := hI (fun W (hW : Ext wo W) => validate_calls s (.agg #[.slice sa sn sc]) (c.events.take k) (some ⟨b, off, none⟩) k cap xv W (HS.out.ext (HX.out.trans hW)) HF.out hl ((HI.out.ext (HX.out.trans hW)).take hk) (by omega) (by rw [hvx]; exact hits.ext hW) hin (by rw [hvx]; exact (HFEW.out _ (List.getElem_mem hkl)).2))
   unfold EvV.val at HV
   obtain ⟨V, hV⟩ : ∃ V, V = evErr s (c.events.take k) xv.x := ⟨_, rfl⟩
   rw [<- hV] at HV
   have HVV := hI (show V = evErr s (c.events.take k) c.events[k] by rw [hV, hvx])
   clear hV hits hvx hrow
   go_upto_region 11 with fail
   rw [<- hwb]
   clear hwb c0 c1 c2 c3 c4 c5 c6
   obtain ⟨y0, y1, y2, y3, y4, y5, y6, yf⟩ := blk7 HBE.out
   obtain ⟨z0, zf⟩ := blk1 HSB.out
   obtain ⟨x0, x1, x2, x3, x4, x5, x6, xf⟩ := blk7 HBB.out
   have hbe := blk_lt HBE.out
   have hcap : n <= cap := by obtain ⟨_, h1, _⟩ := HI.out; exact h1.2.1
   have hkc : k <= cap := by omega
   have hkc2 : (k : Int) <= (cap : Int) := by omega
   have hk0 : (0 : Int) <= (k : Int) := by omega
   go_still_tail 6, (by kernel_rfl)
   change wpList _ _ _ _ _ wb.drew
   have hxd : Ext wb wb.drew := (Ext.refl wb).drew
   generalize wb.drew = wd at hxd ⊢
   have HXD := hI (HXB.out.trans hxd)
   have HSD := hI (hxd.blk HSB.out)
   have HBD := hI (hxd.blk HBB.out)
   have HED := hI (hxd.blk HBE.out)
   clear hxd y0 y1 y2 y3 y4 y5 y6 yf z0 zf x0 x1 x2 x3 x4 x5 x6 xf
   obtain ⟨y0, y1, y2, y3, y4, y5, y6, yf⟩ := blk7 HED.out
   obtain ⟨z0, zf⟩ := blk1 HSD.out
   obtain ⟨x0, x1, x2, x3, x4, x5, x6, xf⟩ := blk7 HBD.out
   go_wp2_with fail
   refine (HV.out wd HXD.out).mono ?_
   rintro r w3 ⟨rfl, hx3⟩
   have HX3 := hI ((HX.out.trans HXD.out).trans hx3)
   have HS3 := hI (hx3.blk HSD.out)
   have HB3 := hI (hx3.blk HBD.out)
   clear hx3 y0 y1 y2 y3 y4 y5 y6 yf z0 zf x0 x1 x2 x3 x4 x5 x6 xf
   by_cases hv : V = 0
   ·have tv : (V != 0) = false := by simp [hv]
    have HZV := hI (HVV.out.symm.trans hv)
    clear hv
    go_wp2_with fail
    go_roundw
    case rel =>
     refine ⟨k + 1, by go_num, by omega, fun j hj hjk => ?_, HS3.out, HB3.out, HX3.out⟩
     by_cases e : j = k
     ·subst e; exact HZV.out
     exact HNO.out j hj (by omega)
    case measure => simp [intOf]; omega
   have tv : (V != 0) = true := by simp [hv]
   have HQV := hI (show R = V by rw [HQ.out, evsErr_hit hkl HNO.out (by rw [<- HVV.out]; exact hv)]; exact HVV.out.symm)
   clear hv
   go_wp2_with fail
   go_ret
   exact givesE_of (by rw [HQV.out]) HX3.out
  have t1 : decide ((k : Int) < (n : Int)) = false := decide_eq_false (by omega)
  have HQ0 := hI (show R = 0 by rw [HQ.out]; exact evsErr_zero fun j hj => HNO.out j hj (by have := HN.out; omega))
  go_wp2_with fail
  go_ret
  exact givesE_of (by rw [HQ0.out]) HX.out
end Go.Proofs.YtefjomofjejklaaGreat
