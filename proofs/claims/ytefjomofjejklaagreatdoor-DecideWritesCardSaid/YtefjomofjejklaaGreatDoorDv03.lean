/-
  Texts of the claim, joined: Args, LaidD, Schema, Gram, Tokens, Exs, Grow, Grow2.
-/
import Derived.Test.YtefjomofjejklaaGreatDoorDv02
import Derived.Carry
import Derived.ChangeSlices
import Derived.SizedLaws
import Derived.Test.YtefjomofjejklaaGreatDoorRows
import Derived.Deep.AppendLies
import Derived.Deep.RegionLaw
import Derived.RegionTactic
import Derived.Orders
import Derived.BigFrame
namespace Go.Proofs.YtefjomofjejklaaGreatDoor
set_option maxRecDepth 100000
set_option maxHeartbeats 32000000
open Go.ChangeShapes Go.WideShapes Go.ChangeAt Go.RowKit
theorem laidOut : laidOutB Tryz.prog = true := by kernel_rfl
def rowedB (P : Program) (ts : List TypeId) : Bool := ts.all fun t => P.readableRec t && decide (t < P.types.size)
theorem args_again {H : Type} {enc : TypeId × Value -> H} {P : Program} (hl : laidOutB P = true) {W W' : World} (hb : Ext W W') : ∀ {ts : List TypeId} {vs : List Value} {ds : List (DataW H)} {ps : List MemPlace}, rowedB P ts = true -> DataW.TrodAll enc P W 0 (fun _ => true) true ts vs ds ps -> (∀ x ∈ ps, x.block < W.heap.size) -> DataW.TrodAll enc P W' 0 (fun b => decide (b < W.heap.size)) true ts vs ds ps
 | [], [], [], _, _, h, _ => h
 | t :: ts, v :: vs, d :: ds, ps, hr, h, hlt => by
  obtain ⟨p, q, h1, h2, e⟩ := h
  simp only [rowedB, List.all_cons, Bool.and_eq_true, decide_eq_true_eq] at hr
  subst e
  exact ⟨p, q, Below.trod hl hr.1.1 hr.1.2 h1 hb (fun x hx => hlt x (by simp [hx])), args_again hl hb (by simpa [rowedB] using hr.2) h2 (fun x hx => hlt x (by simp [hx])), rfl⟩
 | [], _ :: _, _, _, _, h, _ => by simp [DataW.TrodAll] at h
 | [], [], _ :: _, _, _, h, _ => by simp [DataW.TrodAll] at h
 | _ :: _, [], _, _, _, h, _ => by simp [DataW.TrodAll] at h
 | _ :: _, _ :: _, [], _, _, h, _ => by simp [DataW.TrodAll] at h
theorem law_post2 {H : Type} {enc : TypeId × Value -> H} {f : Func} {s : ChangeSpec} {W W' : World} {args : Array Value} {ds : List (DataW H)} {before : List MemPlace}
  (hW : DataW.Whole enc Tryz.prog f.params.toList s.vars false W args.toList ds [] before) (hv : s.vars = []) (hrt : f.resultTypes = #[4]) (hfn : (s.fn H (ds ++ [])).results = [.lit (.bool true)]) (hfa : (s.fn H (ds ++ [])).args = ds) (hfv : (s.fn H (ds ++ [])).vars = []) (hrw : rowedB Tryz.prog f.params.toList = true)
  (hx : Ext W W') : s.post enc Tryz.prog f false true false false W args (.bool true) W' := by
 have hW2 := hW
 obtain ⟨p, q, hA, hV, rfl, hfz, hnd⟩ := hW2
 rw [hv] at hV
 obtain ⟨_, rfl⟩ := trodVars_none hV
 have hlt : ∀ x ∈ p ++ [], x.block < W.heap.size := fun x hx => by simpa using hW.lt x hx
 simp only [List.append_nil] at *
 have hres : ∀ (b : Nat) (sp : Nat -> Bool) (hd : Bool), DataW.TrodAll enc Tryz.prog W' b sp hd f.resultTypes.toList ((Value.bool true).resultList f.resultTypes.size) (s.fn H (ds ++ [])).results [] := by
  intro b sp hd
  rw [hrt, List.append_nil, hfn]
  exact trodAll_cons_mk (shut_bool uB _) trodAll_mk0
 refine ⟨ds, [], p, [], p, [], hW, hres _ _ _, by rw [List.append_nil, hfa]; exact args_again laidOut hx hrw hA hlt, ?_, World.keptBut_mono (fun p hp => hp) (Below.frame hx _), fun h => by cases h⟩
 rw [hv, List.append_nil, hfv]
 rfl
theorem uIs : Tryz.prog.underlying 26 = some (.slice 3) := by kernel_rfl
theorem bInt : Tryz.prog.bytesOf 3 = 8 := by kernel_rfl
theorem ints_arg {H : Type} {enc : TypeId × Value -> H} {W : World} {base : Nat} {v : Value} {d : DataW H} {p : List MemPlace} {ts : List TypeId} {ds : List (DataW H)} {j : Nat} (hval : Value.okWide Tryz.prog W .any base 26 v) (h : DataW.Trod enc Tryz.prog W 0 (fun _ => true) true 26 v d p)
  (hs : (DataW.weightsEach Tryz.prog ts ds).all (· <= reachBytes) = true) (ht : ts[j]? = some 26) (hd : ds[j]? = some d) : ∃ a n c, v = .slice a n c /\ IntsAt W a n /\ n <= 1000000000000000 := by
 obtain ⟨a, n, c, rfl⟩ := okWide_slice uIs hval
 refine ⟨a, n, c, rfl, ?_⟩
 obtain ⟨fuel, hf⟩ := h
 rcases open_ints uIs uI cI hf with ⟨hcs, hx⟩ | ⟨ad, len, cap, zs, hcs, _, hl, hm, hz, hx, hcell, hw⟩
 ·simp [Value.cells] at hcs
  obtain ⟨rfl, rfl, rfl⟩ := hcs
  exact ⟨fun i hi => by omega, by omega⟩
 simp [Value.cells] at hcs
 obtain ⟨rfl, rfl, rfl⟩ := hcs
 simp only [Prod.mk.injEq] at hx
 obtain ⟨rfl, rfl⟩ := hx
 simp only [if_true] at hz
 have hb := sized_slice hs ht hd uIs
 rw [bInt] at hb
 simp only [lits, List.length_map, List.length_take, List.length_drop] at hb
 have hr := reachBytes_lt
 refine ⟨fun i hi => ?_, by omega⟩
 obtain ⟨b, off, spot⟩ := ad
 have h0 := hcell 0 (by omega)
 have hsp : spot = none := by
  cases spot with
  | none => rfl
  | some x =>
   exfalso
   simp only [Addr.add, if_true, World.cell?] at h0
   split at h0 <;> simp at h0
 subst hsp
 have := hcell i (by omega)
 refine ⟨b, off, zs.getD i 0, rfl, ?_⟩
 rw [<- this]
 congr 1
 unfold Addr.add
 split <;> simp_all
open Go.ChangeShapes Go.WideShapes Go.ChangeAt Go.WideMaps Go.WideElems Go.RowKit
theorem hasOps_of_laid {W : World} (h : laidMetH Tryz.prog Rows.decideVerdictRow.laid W) : HasOps W := by
 rw [MakeChecks.laidMetH_plain _ _ _ (by kernel_rfl)] at h
 obtain ⟨ps, ⟨g1, t1, cs1, f1, p1, q1, hg1, ht1, hv1, hd1, _, _⟩, _, _⟩ := h
 obtain rfl := Option.some.inj (gOps.symm.trans hg1)
 obtain rfl := Option.some.inj (tOps.symm.trans ht1)
 obtain ⟨xs, m, rfl, hx, hlen, hn, hel⟩ := DataW.trod_array uOps hd1
 simp only [Prod.mk.injEq] at hx
 have hx1 := hx.1
 intro k hk
 have hD : (xs.map (·.1))[k]? = some (.agg [.lit (.string (opWord k).data.toList), .lit (.bool (opNamed k)), .lit (.int .i64 (opLeast k)), .lit (.int .i64 (opMost k)), .lit (.int .i64 (opBinds k))]) := by
  unfold Rows.laid_treaty_syntax_operators at hx1
  injection hx1 with hx1
  rw [<- hx1]
  have hk' : k = 0 \/ k = 1 \/ k = 2 \/ k = 3 \/ k = 4 \/ k = 5 \/ k = 6 \/ k = 7 \/ k = 8 := by omega
  rcases hk' with rfl | rfl | rfl | rfl | rfl | rfl | rfl | rfl | rfl <;> rfl
 rw [List.getElem?_map] at hD
 have hek := hel k hk
 cases hy : xs[k]? with
 | none => rw [hy] at hD; cases hD
 | some y =>
  rw [hy] at hD hek
  simp only [Option.map_some, Option.some.injEq] at hD
  rw [cOp] at hek
  have hc := op_cells hek hD
  have key : ∀ j, j < 5 -> W.cell? ⟨0, k * 5 + j, none⟩ = ([.string (opWord k), .bool (opNamed k), .int .i64 (opLeast k), .int .i64 (opMost k), .int .i64 (opBinds k)] : List Value)[j]? := by
   intro j hj
   have e1 : (⟨(opWord k).data.toList.toArray⟩ : BA) = opWord k := by simp
   rw [World.var?_cell hg1 hv1 (k * 5 + j), <- e1, <- hc, List.getElem?_take, if_pos hj, List.getElem?_drop]
   simp
  have k0 := key 0 (by omega)
  rw [Nat.add_zero] at k0
  exact ⟨k0, key 1 (by omega), key 2 (by omega), key 3 (by omega), key 4 (by omega)⟩
open Go.RowKit
structure Attr where
 name : BA
 kind : Int
 words : ZB
 lo : Int
 hi : Int
def AttrAt (w : World) (x : Attr) (b off : Nat) : Prop := ∃ aw nw cw, w.cell? ⟨b, off, none⟩ = some (.string x.name) /\ w.cell? ⟨b, off + 1, none⟩ = some (.int .i64 x.kind) /\ w.cell? ⟨b, off + 2, none⟩ = some (.slice aw nw cw) /\ w.cell? ⟨b, off + 3, none⟩ = some (.int .i64 x.lo) /\
 w.cell? ⟨b, off + 4, none⟩ = some (.int .i64 x.hi) /\ IsStrs w x.words aw nw cw
def IsSchema (w : World) (l : List Attr) (v : Value) : Prop := ∃ a n c, v = .agg #[.slice a n c] /\ n = l.length /\ n <= c /\ OkAddr a c /\ ∀ i (h : i < l.length), ∃ b off, a = some ⟨b, off, none⟩ /\ AttrAt w l[i] b (off + i * 5)
theorem AttrAt.mono {w w' : World} {x : Attr} {b off : Nat} (h : AttrAt w x b off) (hs : Sub w w') : AttrAt w' x b off := by
 obtain ⟨aw, nw, cw, h0, h1, h2, h3, h4, h5⟩ := h
 exact ⟨aw, nw, cw, hs _ _ h0, hs _ _ h1, hs _ _ h2, hs _ _ h3, hs _ _ h4, h5.mono hs⟩
theorem IsSchema.mono {w w' : World} {l : List Attr} {v : Value} (h : IsSchema w l v) (hs : Sub w w') : IsSchema w' l v := by
 obtain ⟨a, n, c, h1, h2, h3, h4, h5⟩ := h
 exact ⟨a, n, c, h1, h2, h3, h4, fun i hi => by obtain ⟨b, off, e1, e2⟩ := h5 i hi; exact ⟨b, off, e1, e2.mono hs⟩⟩
def aPeril : Attr := ⟨⟨#[112, 101, 114, 105, 108]⟩, 1, [⟨#[102, 105, 114, 101]⟩, ⟨#[102, 108, 111, 111, 100]⟩, ⟨#[119, 105, 110, 100]⟩, ⟨#[116, 104, 101, 102, 116]⟩], 0, 0⟩
def schemas : List (List Attr) := [[aPeril, ⟨⟨#[115, 116, 111, 114, 101, 121, 115]⟩, 2, [], 1, 9⟩, ⟨⟨#[97, 108, 97, 114, 109]⟩, 3, [], 0, 0⟩],
 [⟨⟨#[110]⟩, 2, [], -5, 20⟩],
 [⟨⟨#[97]⟩, 3, [], 0, 0⟩, ⟨⟨#[114, 111, 108, 101]⟩, 1, [⟨#[99, 114, 101, 119]⟩, ⟨#[103, 117, 101, 115, 116]⟩], 0, 0⟩, ⟨⟨#[98]⟩, 3, [], 0, 0⟩],
 [⟨⟨#[110]⟩, 2, [], -1000000000, 1000000000⟩, ⟨⟨#[116]⟩, 3, [], 0, 0⟩],
 [⟨⟨#[111, 110, 101]⟩, 1, [⟨#[111, 110, 108, 121]⟩], 0, 0⟩, aPeril, ⟨⟨#[110]⟩, 2, [], 0, 6⟩, ⟨⟨#[116]⟩, 3, [], 0, 0⟩],
 [⟨⟨#[116]⟩, 3, [], 0, 0⟩]]
theorem within_calls (x n : Int) (w : World) (hn : 0 < n) (hn2 : n <= 1000000000000000000) : Calls Tryz.prog 16 #[.int .i64 x, .int .i64 n] w (fun e w' => ∃ r : Int, e = .returned (.int .i64 r) /\ 0 <= r /\ r < n /\ w = w') := by
 go_enter Tryz.func16, Tryz.ntmps16
 go_wp2_with fail
 go_ret
 have a1 := Int.tmod_lt_of_pos x hn
 have a5 := Int.lt_tmod_of_pos x hn
 rw [IntWalk.wrap64_in (x.tmod n + n) (by omega)]
 exact ⟨_, rfl, Int.tmod_nonneg n (by omega), Int.tmod_lt_of_pos (x.tmod n + n) hn, rfl⟩
theorem isStrs_set {w : World} {l : ZB} {g n c : Nat} (h : IsStrs w l (some ⟨g, 0, none⟩) n c) {b : Nat} (hb : g ≠ b) (u : Value) (o : Obj) : IsStrs ((w.setCell ⟨b, 0, none⟩ u).alloc o) l (some ⟨g, 0, none⟩) n c := by
 refine ⟨h.1, h.2.1, h.2.2.1, fun i hi => ?_⟩
 obtain ⟨b', off, e1, e2⟩ := h.2.2.2 i hi
 simp only [Option.some.injEq, Addr.mk.injEq, and_true] at e1
 obtain ⟨rfl, rfl⟩ := e1
 refine ⟨g, 0, rfl, Ext.cell ((Ext.refl _).alloc o) ?_⟩
 rw [World.cell?_setCell_other _ _ _ _ (fun e => hb (by injection e with e1; exact e1.symm))]
 exact e2
def PerilQ (w : World) (e : Ending) (w' : World) : Prop := ∃ g, e = .returned (.agg #[.string aPeril.name, .int .i64 1, .slice (some ⟨g, 0, none⟩) 4 4, .int .i64 0, .int .i64 0]) /\ IsStrs w' aPeril.words (some ⟨g, 0, none⟩) 4 4 /\ Ext w w' /\ w.heap.size < g
theorem isStrs_block {w : World} {g : Nat} {l : ZB} {t : TypeId} (h : w.heap[g]? = some (.cells (l.map Value.string).toArray t (0, 0))) {n : Nat} (hn : n = l.length) : IsStrs w l (some ⟨g, 0, none⟩) n n := by
 subst hn
 refine ⟨rfl, Nat.le_refl _, Or.inr ⟨g, 0, rfl⟩, fun i hi => ⟨g, 0, rfl, ?_⟩⟩
 rw [Nat.zero_add, blk_cell h]
 simp [hi]
structure AttrV where
 x : Attr
 a : OA
 n : Nat
 c : Nat
def AttrV.cells (v : AttrV) : List Value := [.string v.x.name, .int .i64 v.x.kind, .slice v.a v.n v.c, .int .i64 v.x.lo, .int .i64 v.x.hi]
theorem isStrs_nil (w : World) : IsStrs w [] none 0 0 := ⟨rfl, by omega, Or.inl ⟨rfl, rfl⟩, fun i hi => by simp at hi⟩
theorem isSchema_block {w : World} {g : Nat} {avs : List AttrV} {t : TypeId} (h : w.heap[g]? = some (.cells (avs.flatMap AttrV.cells).toArray t (0, 0))) {n : Nat} (hn : n = avs.length) (hs : ∀ v ∈ avs, IsStrs w v.x.words v.a v.n v.c) : IsSchema w (avs.map (·.x)) (.agg #[.slice (some ⟨g, 0, none⟩) n n]) := by
 subst hn
 refine ⟨some ⟨g, 0, none⟩, _, _, rfl, by simp, Nat.le_refl _, Or.inr ⟨g, 0, rfl⟩, fun i hi => ⟨g, 0, rfl, ?_⟩⟩
 have hi' : i < avs.length := by simpa using hi
 have key : ∀ j (hj : j < 5), w.cell? ⟨g, i * 5 + j, none⟩ = some ((avs[i].cells)[j]'(by simp [AttrV.cells]; omega)) := by
  intro j hj
  rw [blk_cell h]
  have := flatMap_at AttrV.cells 5 (fun _ => rfl) avs i hi' j (by simp [AttrV.cells]; omega)
  simpa using this
 have e : (avs.map (·.x))[i] = avs[i].x := by simp
 rw [e, Nat.zero_add]
 exact ⟨avs[i].a, avs[i].n, avs[i].c, key 0 (by omega), key 1 (by omega), key 2 (by omega), key 3 (by omega), key 4 (by omega), hs _ (List.getElem_mem hi')⟩
theorem peril_calls (w : World) : Calls Tryz.prog 55 #[] w (PerilQ w) := by
 go_enter Tryz.func55, Tryz.ntmps55
 go_wp2_with fail
 refine bodyPost_ret (v := .agg #[.string aPeril.name, .int .i64 1, .slice (some ⟨w.heap.size + 1, 0, none⟩) 4 4, .int .i64 0, .int .i64 0]) (by simp [results, Tryz.results55, go_sem, aPeril]) rfl ?_
 refine ⟨_, rfl, isStrs_block (l := aPeril.words) (t := 9) ?_ rfl, ((Ext.refl w).alloc _).alloc _, by omega⟩
 have := alloc_new (w.alloc (.cells #[.string aPeril.name, .int .i64 1, .slice (some ⟨w.heap.size + 1, 0, none⟩) 4 4, .int .i64 0, .int .i64 0] 101)) (.cells (aPeril.words.map Value.string).toArray 9)
 simpa [aPeril] using this
theorem isStrs_mask {w : World} {M : ZN} {l : ZB} {a : OA} {n c : Nat} (h : IsStrs w l a n c) (ha : ∀ b off, a = some ⟨b, off, none⟩ -> b ∉ M) : IsStrs (mask w M) l a n c := by
 refine ⟨h.1, h.2.1, h.2.2.1, fun i hi => ?_⟩
 obtain ⟨b, off, e, hc⟩ := h.2.2.2 i hi
 exact ⟨b, off, e, by rw [mask_cell, if_neg (ha b off e)]; exact hc⟩
theorem mask_blk {w : World} {M : ZN} {g : Nat} {o : Obj} (h : w.heap[g]? = some o) (hg : g ∉ M) : (mask w M).heap[g]? = some o := by
 unfold mask
 simp only [Array.getElem?_mapIdx, h, Option.map_some, hg, if_false]
def SchemaQ (M : ZN) (w : World) (e : Ending) (w' : World) : Prop := ∃ l v, e = .returned v /\ l ∈ schemas /\ IsSchema (mask w' M) l v /\ Ext w w'
theorem schemaQ_mk {w W : World} {g n : Nat} {l : List Attr} {M : ZN} (hM : ∀ y ∈ M, y < w.heap.size) (avs : List AttrV) {t : TypeId} (hg : w.heap.size <= g) (ha : ∀ v ∈ avs, ∀ b off, v.a = some ⟨b, off, none⟩ -> w.heap.size <= b) (h : W.heap[g]? = some (.cells (avs.flatMap AttrV.cells).toArray t (0, 0))) (hn : n = avs.length) (hl : avs.map (·.x) = l) (hm : l ∈ schemas) (hs : ∀ v ∈ avs, IsStrs W v.x.words v.a v.n v.c) (hx : Ext w W) :
  SchemaQ M w (.returned (.agg #[.slice (some ⟨g, 0, none⟩) n n])) W :=
 ⟨l, _, rfl, hm, hl ▸ isSchema_block (mask_blk h (fun hh => by have := hM _ hh; omega)) hn (fun v hv => isStrs_mask (hs v hv) (fun b off e hh => by have := hM _ hh; have := ha v hv b off e; omega)), hx⟩
theorem schema_calls (k : Int) (M : ZN) (w : World) (hM : ∀ y ∈ M, y < w.heap.size) : Calls Tryz.prog 26 #[.int .i64 k] w (SchemaQ M w) := by
 have HMM := hI hM
 clear hM
 go_enter Tryz.func26, Tryz.ntmps26
 go_wp2_with fail
 refine (within_calls _ _ _ (by omega) (by omega)).mono ?_
 rintro e w' ⟨r, rfl, h0, h1, rfl⟩
 have h : r = 0 \/ r = 1 \/ r = 2 \/ r = 3 \/ r = 4 \/ r = 5 := by omega
 clear h0 h1
 rcases h with rfl | rfl | rfl | rfl | rfl | rfl
 ·go_wp2_with fail
  refine (peril_calls _).mono ?_
  rintro e w' ⟨g, rfl, hp, hx, hgn⟩
  simp at hgn
  have hwz := hx.size
  simp at hwz
  have hb := hx.blk (alloc_new w _)
  have hlt := blk_lt hb
  have c0 := blk_cell hb 0
  have cf := blk_free hb
  simp at c0
  have HX := hI (((Ext.refl w).alloc _).trans hx)
  have HP := hI hp
  clear hx hb hp
  go_wp2_with fail
  refine bodyPost_ret (v := .agg #[.slice (some ⟨w'.heap.size, 0, none⟩) 3 3]) (by simp [results, Tryz.results26, go_sem, c0, hlt]) rfl ?_
  refine schemaQ_mk HMM.out [⟨aPeril, some ⟨g, 0, none⟩, 4, 4⟩, ⟨⟨⟨#[115, 116, 111, 114, 101, 121, 115]⟩, 2, [], 1, 9⟩, none, 0, 0⟩, ⟨⟨⟨#[97, 108, 97, 114, 109]⟩, 3, [], 0, 0⟩, none, 0, 0⟩] (t := 101) (by omega) (by intro v hv b off he; simp only [List.mem_cons, List.not_mem_nil, or_false] at hv; (repeat' (rcases hv with rfl | hv)) <;> (try subst hv) <;> simp at he <;> omega) ?_ rfl rfl (by simp [schemas]) ?_ ?_
  ·simpa [AttrV.cells, aPeril] using alloc_new (w'.setCell ⟨w.heap.size, 0, none⟩ (.slice (some ⟨w'.heap.size, 0, none⟩) 3 3)) (.cells #[.string aPeril.name, .int .i64 1, .slice (some ⟨g, 0, none⟩) 4 4, .int .i64 0, .int .i64 0, .string ⟨#[115, 116, 111, 114, 101, 121, 115]⟩, .int .i64 2, .slice none 0 0, .int .i64 1, .int .i64 9, .string ⟨#[97, 108, 97, 114, 109]⟩, .int .i64 3, .slice none 0 0, .int .i64 0, .int .i64 0] 101)
  ·intro v hv
   simp only [List.mem_cons, List.not_mem_nil, or_false] at hv
   rcases hv with rfl | rfl | rfl
   ·exact isStrs_set HP.out (by omega) _ _
   ·exact isStrs_nil _
   exact isStrs_nil _
  exact (HX.out.setAbove (by simp) _).alloc _
 ·go_wp2_with fail
  refine bodyPost_ret (v := .agg #[.slice (some ⟨w.heap.size + 1, 0, none⟩) 1 1]) (by simp [results, Tryz.results26, go_sem]) rfl ?_
  refine schemaQ_mk HMM.out [⟨⟨⟨#[110]⟩, 2, [], -5, 20⟩, none, 0, 0⟩] (t := 101) (by omega) (by intro v hv b off he; simp only [List.mem_cons, List.not_mem_nil, or_false] at hv; (repeat' (rcases hv with rfl | hv)) <;> (try subst hv) <;> simp at he <;> omega) ?_ rfl rfl (by simp [schemas]) (by intro v hv; simp at hv; subst hv; exact isStrs_nil _) (((Ext.refl w).alloc _).alloc _)
  simpa [AttrV.cells] using alloc_new (w.alloc (.cells #[.slice (some ⟨w.heap.size + 1, 0, none⟩) 1 1] 24)) (.cells #[.string ⟨#[110]⟩, .int .i64 2, .slice none 0 0, .int .i64 (-5), .int .i64 20] 101)
 ·go_wp2_with fail
  refine bodyPost_ret (v := .agg #[.slice (some ⟨w.heap.size + 2, 0, none⟩) 3 3]) (by simp [results, Tryz.results26, go_sem]) rfl ?_
  refine schemaQ_mk HMM.out [⟨⟨⟨#[97]⟩, 3, [], 0, 0⟩, none, 0, 0⟩, ⟨⟨⟨#[114, 111, 108, 101]⟩, 1, [⟨#[99, 114, 101, 119]⟩, ⟨#[103, 117, 101, 115, 116]⟩], 0, 0⟩, some ⟨w.heap.size + 1, 0, none⟩, 2, 2⟩, ⟨⟨⟨#[98]⟩, 3, [], 0, 0⟩, none, 0, 0⟩] (t := 101) (by omega) (by intro v hv b off he; simp only [List.mem_cons, List.not_mem_nil, or_false] at hv; (repeat' (rcases hv with rfl | hv)) <;> (try subst hv) <;> simp at he <;> omega) ?_ rfl rfl (by simp [schemas]) ?_ ((((Ext.refl w).alloc _).alloc _).alloc _)
  ·simpa [AttrV.cells] using alloc_new ((w.alloc (.cells #[.slice (some ⟨w.heap.size + 2, 0, none⟩) 3 3] 24)).alloc (.cells #[.string ⟨#[99, 114, 101, 119]⟩, .string ⟨#[103, 117, 101, 115, 116]⟩] 9)) (.cells #[.string ⟨#[97]⟩, .int .i64 3, .slice none 0 0, .int .i64 0, .int .i64 0, .string ⟨#[114, 111, 108, 101]⟩, .int .i64 1, .slice (some ⟨w.heap.size + 1, 0, none⟩) 2 2, .int .i64 0, .int .i64 0, .string ⟨#[98]⟩, .int .i64 3, .slice none 0 0, .int .i64 0, .int .i64 0] 101)
  intro v hv
  simp only [List.mem_cons, List.not_mem_nil, or_false] at hv
  rcases hv with rfl | rfl | rfl
  ·exact isStrs_nil _
  ·refine isStrs_block (t := 9) (blk_alloc ?_) rfl
   simpa using alloc_new (w.alloc (.cells #[.slice (some ⟨w.heap.size + 2, 0, none⟩) 3 3] 24)) (.cells #[.string ⟨#[99, 114, 101, 119]⟩, .string ⟨#[103, 117, 101, 115, 116]⟩] 9)
  exact isStrs_nil _
 ·go_wp2_with fail
  refine bodyPost_ret (v := .agg #[.slice (some ⟨w.heap.size + 1, 0, none⟩) 2 2]) (by simp [results, Tryz.results26, go_sem]) rfl ?_
  refine schemaQ_mk HMM.out [⟨⟨⟨#[110]⟩, 2, [], -1000000000, 1000000000⟩, none, 0, 0⟩, ⟨⟨⟨#[116]⟩, 3, [], 0, 0⟩, none, 0, 0⟩] (t := 101) (by omega) (by intro v hv b off he; simp only [List.mem_cons, List.not_mem_nil, or_false] at hv; (repeat' (rcases hv with rfl | hv)) <;> (try subst hv) <;> simp at he <;> omega) ?_ rfl rfl (by simp [schemas]) ?_ (((Ext.refl w).alloc _).alloc _)
  ·simpa [AttrV.cells] using alloc_new (w.alloc (.cells #[.slice (some ⟨w.heap.size + 1, 0, none⟩) 2 2] 24)) (.cells #[.string ⟨#[110]⟩, .int .i64 2, .slice none 0 0, .int .i64 (-1000000000), .int .i64 1000000000, .string ⟨#[116]⟩, .int .i64 3, .slice none 0 0, .int .i64 0, .int .i64 0] 101)
  intro v hv
  simp only [List.mem_cons, List.not_mem_nil, or_false] at hv
  rcases hv with rfl | rfl <;> exact isStrs_nil _
 ·go_wp2_with fail
  refine (peril_calls _).mono ?_
  rintro e w' ⟨g, rfl, hp, hx, hgn⟩
  simp at hgn
  have hwz := hx.size
  simp at hwz
  have HO := hI (hx.blk (alloc_new (w.alloc (.cells #[.slice none 0 0] 24)) (.cells #[.string ⟨#[111, 110, 108, 121]⟩] 9)))
  have hb := hx.blk (blk_alloc (o' := .cells #[.string ⟨#[111, 110, 108, 121]⟩] 9) (alloc_new w (.cells #[.slice none 0 0] 24)))
  have hlt := blk_lt hb
  have c0 := blk_cell hb 0
  have cf := blk_free hb
  simp at c0
  have HX := hI ((((Ext.refl w).alloc _).alloc _).trans hx)
  have HP := hI hp
  clear hx hb hp
  go_wp2_with fail
  refine bodyPost_ret (v := .agg #[.slice (some ⟨w'.heap.size, 0, none⟩) 4 4]) (by simp [results, Tryz.results26, go_sem, c0, hlt]) rfl ?_
  refine schemaQ_mk HMM.out [⟨⟨⟨#[111, 110, 101]⟩, 1, [⟨#[111, 110, 108, 121]⟩], 0, 0⟩, some ⟨w.heap.size + 1, 0, none⟩, 1, 1⟩, ⟨aPeril, some ⟨g, 0, none⟩, 4, 4⟩, ⟨⟨⟨#[110]⟩, 2, [], 0, 6⟩, none, 0, 0⟩, ⟨⟨⟨#[116]⟩, 3, [], 0, 0⟩, none, 0, 0⟩] (t := 101) (by omega) (by intro v hv b off he; simp only [List.mem_cons, List.not_mem_nil, or_false] at hv; (repeat' (rcases hv with rfl | hv)) <;> (try subst hv) <;> simp at he <;> omega) ?_ rfl rfl (by simp [schemas]) ?_ ?_
  ·simpa [AttrV.cells, aPeril] using alloc_new (w'.setCell ⟨w.heap.size, 0, none⟩ (.slice (some ⟨w'.heap.size, 0, none⟩) 4 4)) (.cells #[.string ⟨#[111, 110, 101]⟩, .int .i64 1, .slice (some ⟨w.heap.size + 1, 0, none⟩) 1 1, .int .i64 0, .int .i64 0, .string aPeril.name, .int .i64 1, .slice (some ⟨g, 0, none⟩) 4 4, .int .i64 0, .int .i64 0, .string ⟨#[110]⟩, .int .i64 2, .slice none 0 0, .int .i64 0, .int .i64 6, .string ⟨#[116]⟩, .int .i64 3, .slice none 0 0, .int .i64 0, .int .i64 0] 101)
  ·intro v hv
   simp only [List.mem_cons, List.not_mem_nil, or_false] at hv
   rcases hv with rfl | rfl | rfl | rfl
   ·refine isStrs_set (isStrs_block (t := 9) (l := [⟨#[111, 110, 108, 121]⟩]) ?_ rfl) (by simp) _ _
    simpa using HO.out
   ·exact isStrs_set HP.out (by omega) _ _
   ·exact isStrs_nil _
   exact isStrs_nil _
  exact (HX.out.setAbove (by simp) _).alloc _
 go_wp2_with fail
 refine bodyPost_ret (v := .agg #[.slice (some ⟨w.heap.size + 1, 0, none⟩) 1 1]) (by simp [results, Tryz.results26, go_sem]) rfl ?_
 refine schemaQ_mk HMM.out [⟨⟨⟨#[116]⟩, 3, [], 0, 0⟩, none, 0, 0⟩] (t := 101) (by omega) (by intro v hv b off he; simp only [List.mem_cons, List.not_mem_nil, or_false] at hv; (repeat' (rcases hv with rfl | hv)) <;> (try subst hv) <;> simp at he <;> omega) ?_ rfl rfl (by simp [schemas]) (by intro v hv; simp at hv; subst hv; exact isStrs_nil _) (((Ext.refl w).alloc _).alloc _)
 simpa [AttrV.cells] using alloc_new (w.alloc (.cells #[.slice (some ⟨w.heap.size + 1, 0, none⟩) 1 1] 24)) (.cells #[.string ⟨#[116]⟩, .int .i64 3, .slice none 0 0, .int .i64 0, .int .i64 0] 101)
mutual
def Ex.depth : Ex -> Nat
 | .mk _ _ _ _ _ args => depths args + 1
def depths : List Ex -> Nat
 | [] => 0
 | e :: r => max e.depth (depths r)
end
theorem Ex.depth_eq (e : Ex) : e.depth = depths e.args + 1 := by cases e; simp [Ex.depth, Ex.args]
theorem Ex.size_eq (e : Ex) : e.size = 1 + sizes e.args := by cases e; simp [Ex.size, Ex.args]
theorem depths_mem {l : List Ex} {e : Ex} (h : e ∈ l) : e.depth <= depths l := by
 induction l with
 | nil => simp at h
 | cons a r ih =>
  rcases List.mem_cons.1 h with rfl | h
  ·simp only [depths]; omega
  have := ih h; simp only [depths]; omega
def exV0 : ExV := ⟨0, ⟨#[]⟩, none, 0, 0, 0, 0, none, 0, 0⟩
theorem Chg.sub {N : ZN} {w w' : World} (h : Chg N w w') : Sub (mask w N) (mask w' N) := mask_sub_mask fun k hk hn => ⟨hn, h.block k hk hn⟩
theorem mask_less {M N : ZN} (w : World) (h : ∀ y ∈ M, y ∈ N) : Sub (mask w N) (mask w M) := mask_sub_mask fun k _ hn => ⟨fun h' => hn (h k h'), rfl⟩
def ExsR (w : World) (l : List Ex) (xs : List ExV) : Prop := l.length = xs.length /\ ∀ i (h1 : i < l.length) (h2 : i < xs.length), IsEx w l[i] xs[i].val
theorem ExsR.mono {w w' : World} {l : List Ex} {xs : List ExV} (h : ExsR w l xs) (hs : Sub w w') : ExsR w' l xs := ⟨h.1, fun i h1 h2 => (h.2 i h1 h2).mono hs⟩
theorem ExsR.nil (w : World) : ExsR w [] [] := ⟨rfl, fun i h => by simp at h⟩
theorem ExsR.snoc {w : World} {l : List Ex} {xs : List ExV} {e : Ex} {x : ExV} (h : ExsR w l xs) (hx : IsEx w e x.val) : ExsR w (l ++ [e]) (xs ++ [x]) := by
 refine ⟨by simp [h.1], fun i h1 h2 => ?_⟩
 by_cases hi : i < l.length
 ·have hi2 : i < xs.length := by rw [<- h.1]; exact hi
  simp only [List.getElem_append_left hi, List.getElem_append_left hi2]
  exact h.2 i hi hi2
 have e1 : i = l.length := by simp at h1; omega
 subst e1
 simp only [List.getElem_append_right (Nat.le_refl _), List.getElem_append_right (show xs.length <= l.length by rw [h.1]; exact Nat.le_refl _), Nat.sub_self, List.getElem_cons_zero]
 simpa [h.1] using hx
theorem exV_len (x : ExV) : x.cells.length = 6 := rfl
theorem exs_owns {w : World} {M : ZN} {base : Nat} {v : Value} {l : List Ex} {xs : List ExV} (h : w.ownsRow base 45 6 v l.length (xs.flatMap ExV.cells)) (hM : ∀ k, v.ownBlock = some k -> k ∉ M) (hR : ExsR (mask w M) l xs) :
  ∃ a c, v = .slice a l.length c /\ l.length <= c /\ OkAddr a c /\ ExsD (mask w M) l a := by
 rw [hR.1] at h
 obtain ⟨a, c, rfl, hr⟩ := IsRows.of_owns exV_len h
 refine ⟨a, c, by rw [hR.1], by rw [hR.1]; exact hr.2.1, hr.2.2.1, ?_⟩
 match l, hR with
 | [], _ => unfold ExsD; trivial
 | e :: r, hR =>
  obtain ⟨b, off, rfl, h1⟩ := hr.2.2.2 0 (by rw [<- hR.1]; simp)
  refine ExsD.of (e :: r) off xs hR.1 fun i h3 h4 => ⟨fun j hj => ?_, hR.2 i h3 h4⟩
  obtain ⟨b', off', e1, h5⟩ := hr.2.2.2 i h4
  simp only [Option.some.injEq, Addr.mk.injEq, and_true] at e1
  obtain ⟨rfl, rfl⟩ := e1
  rw [mask_cell, if_neg (hM _ rfl), h5 j (by rw [exV_len]; exact hj), List.getElem?_eq_getElem (by rw [exV_len]; exact hj)]
theorem exs_one {w : World} {M : ZN} {g : Nat} {e : Ex} {x : ExV} {t : TypeId} (h : w.heap[g]? = some (.cells x.cells.toArray t (0, 0))) (hM : g ∉ M) (hx : IsEx (mask w M) e x.val) : ExsD (mask w M) [e] (some ⟨g, 0, none⟩) := by
 refine ExsD.of [e] 0 [x] rfl fun i h1 h2 => ?_
 obtain rfl : i = 0 := by simp at h1; exact h1
 refine ⟨fun j hj => ?_, hx⟩
 rw [mask_cell, if_neg hM, blk_cell h]
 simp
theorem isEx_not {w : World} {M : ZN} {g : Nat} {e : Ex} {x : ExV} {t : TypeId} (h : w.heap[g]? = some (.cells x.cells.toArray t (0, 0))) (hM : g ∉ M) (hx : IsEx (mask w M) e x.val) :
  IsEx (mask w M) (.mk 6 ⟨#[]⟩ [] 0 0 [e]) (exV 6 ⟨#[]⟩ none 0 0 0 0 (some ⟨g, 0, none⟩) 1 1) :=
 IsEx.mk ⟨rfl, by omega, Or.inl ⟨rfl, rfl⟩, fun i hi => by simp at hi⟩ rfl (by simp) (Or.inr ⟨g, 0, rfl⟩) (exs_one h hM hx)
def put6 (w : World) (B : Nat) (x : ExV) : World := (((((w.setCell ⟨B, 0, none⟩ (.int .i64 x.op)).setCell ⟨B, 1, none⟩ (.string x.name)).setCell ⟨B, 2, none⟩ (.slice x.aw x.nw x.cw)).setCell ⟨B, 3, none⟩ (.int .i64 x.lo)).setCell ⟨B, 4, none⟩ (.int .i64 x.hi)).setCell ⟨B, 5, none⟩ (.slice x.aa x.na x.ca)
theorem put6_chg (w : World) (B : Nat) (x : ExV) {N : ZN} (h : B ∈ N) : Chg N w (put6 w B x) := by
 unfold put6
 repeat (with_reducible (refine Chg.setCell ?_ ?_ _))
 exact Chg.refl _ _
 all_goals exact Or.inl h
theorem put6_size (w : World) (B : Nat) (x : ExV) : (put6 w B x).heap.size = w.heap.size := by simp [put6]
def dstAt (ops : Array Oper) (j : Nat) : Option Tmp := (ops[j]?).bind (·.dst)
def acts (ops : Array Oper) (a : Act) (vs : Nat -> Value) (L : ZN) : Act := L.foldl (fun b j => b.put (dstAt ops j) (vs j)) a
theorem acts_snoc (ops : Array Oper) (a : Act) (vs : Nat -> Value) (L : ZN) (i : Nat) : acts ops a vs (L ++ [i]) = (acts ops a vs L).put (dstAt ops i) (vs i) := by simp [acts]
theorem acts_congr {ops : Array Oper} {a : Act} {vs vs' : Nat -> Value} {L : ZN} (h : ∀ j ∈ L, vs j = vs' j) : acts ops a vs L = acts ops a vs' L := by
 unfold acts
 induction L generalizing a with
 | nil => rfl
 | cons x r ih => simp only [List.foldl_cons, h x (by simp)]; exact ih (fun j hj => h j (List.mem_cons_of_mem _ hj))
theorem put_size (a : Act) (d : Option Tmp) (v : Value) : (a.put d v).tmps.size = a.tmps.size := by cases d <;> simp [Act.put]
theorem acts_size (ops : Array Oper) (a : Act) (vs : Nat -> Value) (L : ZN) : (acts ops a vs L).tmps.size = a.tmps.size := by
 unfold acts
 induction L generalizing a with
 | nil => rfl
 | cons x r ih => rw [List.foldl_cons, ih, put_size]
def DstApart (ops : Array Oper) : Prop := ∀ i j d, dstAt ops i = some d -> dstAt ops j = some d -> i = j
theorem put_eval_same (a : Act) (t : Tmp) (v : Value) : (a.put (some t) v).eval (.tmp t) = if t < a.tmps.size then v else undef := by
 by_cases h : t < a.tmps.size
 ·rw [if_pos h]; simp [Act.put, Act.eval, h]
 rw [if_neg h]
 simp only [Act.put, Act.eval]
 rw [Array.setIfInBounds_eq_of_size_le (Nat.le_of_not_lt h)]
 simp
 rw [Array.getElem?_eq_none (Nat.le_of_not_lt h)]; rfl
theorem acts_eval_in {ops : Array Oper} (hd : DstApart ops) {a : Act} {vs : Nat -> Value} {L : ZN} {t : Tmp} {j : Nat} (hj : j ∈ L) (ht : dstAt ops j = some t) : (acts ops a vs L).eval (.tmp t) = if t < a.tmps.size then vs j else undef := by
 induction L generalizing a with
 | nil => simp at hj
 | cons x r ih =>
  simp only [acts, List.foldl_cons]
  by_cases hjr : j ∈ r
  ·have := ih (a := a.put (dstAt ops x) (vs x)) hjr
   rw [put_size] at this
   exact this
  obtain rfl : j = x := by rcases List.mem_cons.1 hj with h | h; exact h; exact absurd h hjr
  have : ∀ (b : Act), (acts ops b vs r).eval (.tmp t) = b.eval (.tmp t) := by
   clear ih hj
   induction r with
   | nil => intro b; rfl
   | cons y s ih =>
    intro b
    simp only [acts, List.foldl_cons]
    have h1 := ih (fun h => hjr (List.mem_cons_of_mem _ h)) (b.put (dstAt ops y) (vs y))
    simp only [acts] at h1
    rw [h1]
    exact Act.eval_put (fun d hd' e => by
     injection e with e
     subst e
     exact hjr (by rw [hd _ _ _ ht hd']; simp))
  have h2 := this (a.put (dstAt ops j) (vs j))
  simp only [acts] at h2
  rw [h2, ht, put_eval_same]
theorem acts_eval_out {ops : Array Oper} {a : Act} {vs : Nat -> Value} {L : ZN} {t : Tmp} (ht : ∀ j ∈ L, dstAt ops j ≠ some t) : (acts ops a vs L).eval (.tmp t) = a.eval (.tmp t) := by
 induction L generalizing a with
 | nil => rfl
 | cons x r ih =>
  simp only [acts, List.foldl_cons]
  have := ih (a := a.put (dstAt ops x) (vs x)) (fun j hj => ht j (List.mem_cons_of_mem _ hj))
  simp only [acts] at this
  rw [this]
  exact Act.eval_put (fun d hd' e => by injection e with e; subst e; exact ht x (by simp) hd')
theorem acts_perm {ops : Array Oper} (hd : DstApart ops) {a : Act} {vs : Nat -> Value} {L L' : ZN} (h : L.Perm L') : acts ops a vs L = acts ops a vs L' := by
 refine List.Perm.foldl_eq' h (fun x _ y _ z => ?_) a
 by_cases hxy : x = y
 ·subst hxy; rfl
 exact Act.put_comm _ _ _ (fun d hx hy => hxy (hd _ _ _ hx hy))
def isData (e : Edge) : Bool := match e.ground with | .data => true | _ => false
def okGrow (ops : Array Oper) (m : Nat) : Bool :=
 Region.noSelect ops && decide (m <= ops.size) && decide (ops.size <= m + 1) &&
 ((List.range ops.size).all fun i => (List.range ops.size).all fun j => i == j || dstAt ops i == none || dstAt ops i != dstAt ops j) &&
 ((List.range ops.size).all fun i => match ops[i]? with
  | none => false
  | some o => (o.guard == none || i == m) && (o.after.all fun e => (!Region.binds .any e || decide (e.on < i)) && (!isData e || Region.binds .any e)) &&
   ((List.range m).all fun j => match dstAt ops j with
    | none => true
    | some t => !(o.looksAt ops).contains t || (i == m) || o.after.any (fun e => Region.binds .any e && e.on == j)) &&
   (i != m || (List.range m).all fun j => o.after.any (fun e => Region.binds .any e && e.on == j)))
theorem okGrow_spec {ops : Array Oper} {m : Nat} (h : okGrow ops m = true) : Region.noSelect ops = true /\ m <= ops.size /\ ops.size <= m + 1 /\ DstApart ops /\
  (∀ i o, ops[i]? = some o -> (i < m -> o.guard = none) /\ (∀ e ∈ o.after, (Region.binds .any e = true -> e.on < i) /\ (isData e = true -> Region.binds .any e = true)) /\ (i < m -> ∀ j t, j < m -> dstAt ops j = some t -> t ∈ o.looksAt ops -> ∃ e ∈ o.after, Region.binds .any e = true /\ e.on = j) /\
   (i = m -> ∀ j, j < m -> ∃ e ∈ o.after, Region.binds .any e = true /\ e.on = j)) := by
 simp only [okGrow, Bool.and_eq_true, decide_eq_true_eq] at h
 obtain ⟨⟨⟨⟨h1, h2⟩, h3⟩, h4⟩, h5⟩ := h
 refine ⟨h1, h2, h3, ?_, ?_⟩
 ·intro i j d hi hj
  have li : i < ops.size := by
   unfold dstAt at hi
   rcases Nat.lt_or_ge i ops.size with h | h
   ·exact h
   rw [Array.getElem?_eq_none h] at hi; simp at hi
  have lj : j < ops.size := by
   unfold dstAt at hj
   rcases Nat.lt_or_ge j ops.size with h | h
   ·exact h
   rw [Array.getElem?_eq_none h] at hj; simp at hj
  have := List.all_eq_true.1 (List.all_eq_true.1 h4 i (by simpa using li)) j (by simpa using lj)
  simpa [hi, hj] using this
 intro i o ho
 have li : i < ops.size := (Array.getElem?_eq_some_iff.1 ho).1
 have h6 := List.all_eq_true.1 h5 i (by simpa using li)
 simp only [ho, Bool.and_eq_true] at h6
 obtain ⟨⟨⟨g1, g2⟩, g3⟩, g4⟩ := h6
 refine ⟨fun hm => ?_, fun e he => ?_, fun hm j t hjm hj ht => ?_, fun hm j hj => ?_⟩
 ·rcases Bool.or_eq_true_iff.1 g1 with g | g
  ·simpa using g
  have : i = m := by simpa using g
  omega
 ·have := Array.all_eq_true_iff_forall_mem.1 g2 e he
  simp only [Bool.and_eq_true, Bool.or_eq_true, Bool.not_eq_true', decide_eq_true_eq] at this
  refine ⟨fun hb => ?_, fun hb => ?_⟩
  ·rcases this.1 with h | h
   ·rw [hb] at h; cases h
   exact h
  rcases this.2 with h | h
  ·rw [hb] at h; cases h
  exact h
 ·have := List.all_eq_true.1 g3 j (by simpa using hjm)
  rw [hj] at this
  simp only [Bool.or_eq_true, Bool.not_eq_true'] at this
  rcases this with (h | h) | h
  ·rw [List.contains_iff_mem.2 ht] at h; cases h
  ·have : i = m := by simpa using h
   omega
  obtain ⟨e, he, hb⟩ := Array.any_eq_true'.1 h
  simp only [Bool.and_eq_true, beq_iff_eq] at hb
  exact ⟨e, he, hb.1, hb.2⟩
 subst hm
 rcases Bool.or_eq_true_iff.1 g4 with g | g
 ·simp at g
 have := List.all_eq_true.1 g j (by simpa using hj)
 obtain ⟨e, he, hb⟩ := Array.any_eq_true'.1 this
 simp only [Bool.and_eq_true, beq_iff_eq] at hb
 exact ⟨e, he, hb.1, hb.2⟩
def GivesOp (P : Program) (o : Oper) (ρ : Operand -> Value) (W : World) (T : Value -> World -> Prop) : Prop := match (execOp ρ o).run P W with
 | .ok (.value v) W' => T v W'
 | .ok .skip W' => T undef W'
 | .ok (.enter f args) W' => Calls P f args W' (fun e W'' => ∃ v, e = .returned v /\ T v W'')
 | _ => False
theorem GivesOp.wp {P : Program} {o : Oper} {ρ : Operand -> Value} {a' : Act} {W : World} {T : Value -> World -> Prop} {Q : Exit -> Act -> World -> Prop} (h : GivesOp P o ρ W T) (he : execOp a'.eval o = execOp ρ o) :
  o.wp P a' W (fun a'' W' => ∃ v, a'' = a'.put o.dst v /\ T v W') Q := by
 unfold GivesOp at h
 unfold Oper.wp
 rw [he]
 generalize (execOp ρ o).run P W = r at *
 cases r with
 | ok n w' =>
  cases n <;> simp only at h <;> simp only [Oper.upon]
  case value v => exact ⟨v, rfl, h⟩
  case skip => exact ⟨undef, rfl, h⟩
  case enter f args =>
   refine Calls.mono h (fun e w'' he => ?_)
   obtain ⟨v, rfl, ht⟩ := he
   exact ⟨v, rfl, ht⟩
 | halt x w' => simp only at h
structure Sees (ops : Array Oper) (a : Act) (m : Nat) (vs : Nat -> Value) (ρ : Operand -> Value) : Prop where
 ins : ∀ j t, j < m -> dstAt ops j = some t -> t < a.tmps.size -> ρ (.tmp t) = vs j
 out : ∀ t, ((List.range m).all fun j => dstAt ops j != some t) = true -> ρ (.tmp t) = a.eval (.tmp t)
 const : ∀ c, ρ (.const c) = c
 glob : ∀ g, ρ (.global g) = .pointer (some ⟨g, 0, none⟩)
 func : ∀ f, ρ (.func f) = .func (.func f) #[] #[]
theorem sees_acts {ops : Array Oper} (hd : DstApart ops) (a : Act) (m : Nat) (vs : Nat -> Value) : Sees ops a m vs (acts ops a vs (List.range m)).eval where
 ins := fun j t hj ht hs => by rw [acts_eval_in hd (by simpa using hj) ht, if_pos hs]
 out := fun t ht => acts_eval_out (fun j hj => by have := List.all_eq_true.1 ht j hj; simpa using this)
 const := fun _ => rfl
 glob := fun _ => rfl
 func := fun _ => rfl
def upd (vs : Nat -> Value) (i : Nat) (v : Value) : Nat -> Value := fun j => if j = i then v else vs j
def comesAfter (ops : Array Oper) : Nat -> Nat -> Nat -> Bool
 | 0, _, _ => false
 | f + 1, i, k => match ops[i]? with
  | none => false
  | some o => o.after.any fun e => Region.binds .any e && (e.on == k || comesAfter ops f e.on k)
theorem comesAfter_mem {ops : Array Oper} {L : ZN} (hcl : ∀ i ∈ L, ∀ o, ops[i]? = some o -> ∀ e ∈ o.after, Region.binds .any e = true -> e.on ∈ L) : ∀ (f i k : Nat), i ∈ L -> comesAfter ops f i k = true -> k ∈ L := by
 intro f
 induction f with
 | zero => intro i k _ h; simp [comesAfter] at h
 | succ f ih =>
  intro i k hi h
  rw [comesAfter] at h
  cases ho : ops[i]? with
  | none => rw [ho] at h; cases h
  | some o =>
   rw [ho] at h
   obtain ⟨e, he, hb⟩ := Array.any_eq_true'.1 h
   simp only [Bool.and_eq_true, Bool.or_eq_true, beq_iff_eq] at hb
   have hm := hcl i hi o ho e he hb.1
   rcases hb.2 with h1 | h1
   ·rw [<- h1]; exact hm
   exact ih e.on k hm h1
theorem comesAfter_ready {ops : Array Oper} {L : ZN} (hcl : ∀ i ∈ L, ∀ o, ops[i]? = some o -> ∀ e ∈ o.after, Region.binds .any e = true -> e.on ∈ L) {i : Nat} {o : Oper} (ho : ops[i]? = some o) (hd : ∀ e ∈ o.after, Region.binds .any e = true -> e.on ∈ L) : ∀ (f k : Nat), comesAfter ops f i k = true -> k ∈ L := by
 intro f k h
 cases f with
 | zero => simp [comesAfter] at h
 | succ f =>
  rw [comesAfter, ho] at h
  obtain ⟨e, he, hb⟩ := Array.any_eq_true'.1 h
  simp only [Bool.and_eq_true, Bool.or_eq_true, beq_iff_eq] at hb
  have hm := hd e he hb.1
  rcases hb.2 with h1 | h1
  ·rw [<- h1]; exact hm
  exact comesAfter_mem hcl f e.on k hm h1
def looksTo (ops : Array Oper) (c i : Nat) : Bool := match ops[c]? with | none => false | some o => o.after.any fun e => isData e && e.on == i
def outlasts (ops : Array Oper) (m : Nat) (Kp : ZN) (i k : Nat) : Bool := !comesAfter ops m i k && (Kp.contains i || (List.range m).any fun c => c != k && !comesAfter ops m k c && looksTo ops c i)
section
variable {P : Program} {ops : Array Oper} {Q : Exit -> Act -> World -> Prop} {a : Act} {m : Nat} (Kp : ZN) (G : ZN -> World -> Prop) (E : Nat -> World -> World -> Prop) (R : Nat -> Value -> World -> Prop)
theorem wpAny_grow (hok : okGrow ops m = true) (hRE : ∀ i k v W W', i < m -> k < m -> i ≠ k -> outlasts ops m Kp i k = true -> R i v W -> E k W W' -> R i v W')
  (hstep : ∀ i o, i < m -> ops[i]? = some o -> ∀ L vs W, i ∉ L -> (∀ j ∈ L, comesAfter ops m j i = false) -> G L W -> (∀ e ∈ o.after, isData e = true -> R e.on (vs e.on) W) -> ∀ ρ, Sees ops a m vs ρ -> GivesOp P o ρ W (fun v W' => E i W W' /\ G (L ++ [i]) W' /\ R i v W'))
  (hend : ∀ L vs W, (∀ j, j < m -> j ∈ L) -> G L W -> (∀ j ∈ Kp, j < m -> R j (vs j) W) -> if m = ops.size then Q .normal (acts ops a vs (List.range m)) W else wpOp P ops Q m (fun a w => Q .normal a w) (acts ops a vs (List.range m)) W) :
  ∀ (fuel : Nat) (L : ZN) (vs : Nat -> Value) (W : World) (listed : Array Bool), listed.size = ops.size -> (∀ j, j < ops.size -> (listed.getD j true = true ↔ j ∈ L)) -> L.Nodup -> (∀ j ∈ L, j < m) -> ((List.range ops.size).filter (fun j => !L.contains j)).length <= fuel -> G L W -> (∀ i ∈ L, ∀ o, ops[i]? = some o -> ∀ e ∈ o.after, Region.binds .any e = true -> e.on ∈ L) -> (∀ j ∈ L, (j ∈ Kp \/ ∃ c, c < m /\ c ∉ L /\ looksTo ops c j = true) -> R j (vs j) W) ->
   wpAny P .any ops Q fuel listed (acts ops a vs L) W := by
 obtain ⟨hns, hm1, hm2, hda, hspec⟩ := okGrow_spec hok
 have hperm : ∀ L : ZN, L.Nodup -> (∀ j ∈ L, j < m) -> (∀ j, j < m -> j ∈ L) -> L.Perm (List.range m) := fun L h1 h2 h3 =>
  (List.perm_ext_iff_of_nodup h1 List.nodup_range).2 (fun j => ⟨fun h => by simpa using h2 j h, fun h => h3 j (by simpa using h)⟩)
 -- all below m are listed if none of them is ready
 have hall : ∀ (L : ZN) (listed : Array Bool), listed.size = ops.size -> (∀ j, j < ops.size -> (listed.getD j true = true ↔ j ∈ L)) -> (∀ j ∈ Region.ready .any ops listed, ¬ j < m) -> ∀ j, j < m -> j ∈ L := by
  intro L listed hsz hL hr j
  induction j using Nat.strongRecOn with
  | _ j ih =>
   intro hj
   by_cases hjL : j ∈ L
   ·exact hjL
   exfalso
   refine hr j ?_ hj
   have hjs : j < ops.size := by omega
   rw [mem_ready]
   obtain ⟨o, ho⟩ : ∃ o, ops[j]? = some o := ⟨ops[j], Array.getElem?_eq_getElem hjs⟩
   refine ⟨?_, o, ho, fun e he hb => ?_⟩
   ·cases hx : listed.getD j true
    ·rfl
    exact absurd ((hL j hjs).1 hx) hjL
   have hlt := ((hspec j o ho).2.1 e he).1 hb
   have hm := ih e.on hlt (by omega)
   have := (hL e.on (by omega)).2 hm
   have hin : e.on < listed.size := by rw [hsz]; omega
   simpa [Array.getD, hin] using this
 -- what is asked when all below m are listed
 have hfin : ∀ (L : ZN) (vs : Nat -> Value) (W : World), L.Nodup -> (∀ j ∈ L, j < m) -> (∀ j, j < m -> j ∈ L) -> G L W -> (∀ j ∈ L, (j ∈ Kp \/ ∃ c, c < m /\ c ∉ L /\ looksTo ops c j = true) -> R j (vs j) W) ->
   if m = ops.size then Q .normal (acts ops a vs L) W else wpOp P ops Q m (fun a w => Q .normal a w) (acts ops a vs L) W := by
  intro L vs W hnd hLm hcov hE hR
  rw [acts_perm hda (hperm L hnd hLm hcov)]
  exact hend L vs W hcov hE (fun j hk hj => hR j (hcov j hj) (Or.inl hk))
 intro fuel
 induction fuel with
 | zero =>
  intro L vs W listed hsz hL hnd hLm hlen hE hcl hR
  have hcov : ∀ j, j < ops.size -> j ∈ L := fun j hj => by
   have h0 := List.eq_nil_of_length_eq_zero (Nat.le_zero.1 hlen)
   have : j ∉ (List.range ops.size).filter (fun j => !L.contains j) := by rw [h0]; simp
   simpa [hj] using this
  have hmn : m = ops.size := by
   rcases Nat.lt_or_ge m ops.size with h | h
   ·have := hLm m (hcov m h); omega
   omega
  have hf := hfin L vs W hnd hLm (fun j hj => hcov j (by omega)) hE hR
  rw [if_pos hmn] at hf
  refine ⟨?_, hf⟩
  rw [List.eq_nil_iff_forall_not_mem]
  intro j hj
  obtain ⟨h0, o, ho, _⟩ := mem_ready.1 hj
  have := (hL j (Array.getElem?_eq_some_iff.1 ho).1).2 (hcov j (Array.getElem?_eq_some_iff.1 ho).1)
  rw [this] at h0; cases h0
 | succ fuel ih =>
  intro L vs W listed hsz hL hnd hLm hlen hE hcl hR
  refine ⟨fun hr => ?_, fun i hi => ?_⟩
  ·have hcov := hall L listed hsz hL (by rw [hr]; simp)
   have hf := hfin L vs W hnd hLm hcov hE hR
   by_cases hmn : m = ops.size
   ·rw [if_pos hmn] at hf; exact hf
   exfalso
   have hms : m < ops.size := by omega
   have : m ∈ Region.ready .any ops listed := by
    rw [mem_ready]
    obtain ⟨o, ho⟩ : ∃ o, ops[m]? = some o := ⟨ops[m], Array.getElem?_eq_getElem hms⟩
    refine ⟨?_, o, ho, fun e he hb => ?_⟩
    ·cases hx : listed.getD m true
     ·rfl
     have := hLm m ((hL m hms).1 hx); omega
    have hlt := ((hspec m o ho).2.1 e he).1 hb
    have := (hL e.on (by omega)).2 (hcov e.on hlt)
    have hin : e.on < listed.size := by rw [hsz]; omega
    simpa [Array.getD, hin] using this
   rw [hr] at this
   simp at this
  obtain ⟨h0, o, ho, hdep⟩ := mem_ready.1 hi
  have his : i < ops.size := (Array.getElem?_eq_some_iff.1 ho).1
  have hiL : i ∉ L := fun h => by rw [(hL i his).2 h] at h0; cases h0
  have hdepL : ∀ e ∈ o.after, Region.binds .any e = true -> e.on ∈ L := fun e he hb => by
   have h1 := hdep e he hb
   have hlt := ((hspec i o ho).2.1 e he).1 hb
   have hin : e.on < listed.size := by rw [hsz]; omega
   exact (hL e.on (by omega)).1 (by simpa [Array.getD, hin] using h1)
  have hlist : ∀ j, j < ops.size -> ((listed.setIfInBounds i true).getD j true = true ↔ j ∈ L ++ [i]) := fun j hj => by
   by_cases hij : i = j
   ·subst hij; simp [hsz, his]
   rw [getD_set_ne true hij, hL j hj]; simp; intro e; exact absurd e.symm hij
  by_cases him : i < m
  ·-- one of the operations that make memory
   have hnc : ∀ j ∈ L, comesAfter ops m j i = false := fun j hj => by
    cases hx : comesAfter ops m j i
    ·rfl
    exact absurd (comesAfter_mem hcl m j i hj hx) hiL
   have hg := hstep i o him ho L vs W hiL hnc hE (fun e he hb => hR _ (hdepL e he (((hspec i o ho).2.1 e he).2 hb)) (Or.inr ⟨i, him, hiL, by unfold looksTo; rw [ho]; exact Array.any_eq_true'.2 ⟨e, he, by simp [hb]⟩⟩)) _ (sees_acts hda a m vs)
   have hex : execOp (acts ops a vs L).eval o = execOp (acts ops a vs (List.range m)).eval o := by
    refine execOp_congr o (Region.noSelect_spec hns i o · · ho) (fun x hx => ?_)
    cases x with
    | tmp t =>
     have hlook : t ∈ o.looksAt ops := List.mem_append_left _ (List.mem_filterMap.2 ⟨.tmp t, by simpa using hx, rfl⟩)
     by_cases hex : ∃ j, j < m /\ dstAt ops j = some t
     ·obtain ⟨j, hjm, hj⟩ := hex
      obtain ⟨e, he, hb, rfl⟩ := (hspec i o ho).2.2.1 him j t hjm hj hlook
      have hjL := hdepL e he hb
      rw [acts_eval_in hda hjL hj, acts_eval_in hda (by simpa using hLm _ hjL) hj]
     have h1 : ∀ j, j < m -> dstAt ops j ≠ some t := fun j hjm hj => hex ⟨j, hjm, hj⟩
     rw [acts_eval_out (fun j hjL => h1 j (hLm j hjL)), acts_eval_out (fun j hjr => h1 j (by simpa using hjr))]
    | const v => rfl
    | global g => rfl
    | func f => rfl
   unfold wpOp
   simp only [ho]
   rw [if_pos (by unfold Region.wanted; rw [(hspec i o ho).1 him])]
   left
   refine Oper.wp_mono ?_ (hg.wp hex)
   rintro a' W' ⟨v, rfl, hEW, hE', hRv⟩
   have e1 : (acts ops a vs L).put o.dst v = acts ops a (upd vs i v) (L ++ [i]) := by
    rw [acts_snoc, acts_congr (vs := upd vs i v) (vs' := vs) (fun j hj => by unfold upd; rw [if_neg (fun e => hiL (by rw [<- e]; exact hj))])]
    simp [upd, dstAt, ho]
   rw [e1]
   refine ih (L ++ [i]) (upd vs i v) W' _ (by simpa using hsz) hlist ?_ ?_ ?_ hE' ?_ ?_
   ·rw [List.nodup_append]
    exact ⟨hnd, by simp, fun x hx y hy e => by simp at hy; subst hy; subst e; exact hiL hx⟩
   ·intro j hj
    rcases List.mem_append.1 hj with h | h
    ·exact hLm j h
    simp at h; omega
   ·have h1 : (List.range ops.size).filter (fun j => !(L ++ [i]).contains j) = ((List.range ops.size).filter (fun j => !L.contains j)).filter (fun j => j != i) := by
     rw [List.filter_filter]
     congr 1
     funext j
     simp only [List.contains_append, Bool.not_or]
     rw [Bool.and_comm]
     congr 1
     rw [Bool.eq_iff_iff]; simp [bne]
    have h2 : (((List.range ops.size).filter (fun j => !L.contains j)).filter (fun j => j != i)).length < ((List.range ops.size).filter (fun j => !L.contains j)).length := by
     rw [List.length_filter_lt_length_iff_exists]
     exact ⟨i, by simp [his, hiL], by simp⟩
    rw [h1]; omega
   ·intro j hj o' ho' e he hb
    rcases List.mem_append.1 hj with h | h
    ·exact List.mem_append_left _ (hcl j h o' ho' e he hb)
    simp at h; subst h
    rw [ho] at ho'
    cases ho'
    exact List.mem_append_left _ (hdepL e he hb)
   intro j hj hlive
   rcases List.mem_append.1 hj with h | h
   ·have : upd vs i v j = vs j := by unfold upd; rw [if_neg (fun e => hiL (by rw [<- e]; exact h))]
    rw [this]
    have hlive' : j ∈ Kp \/ ∃ c, c < m /\ c ∉ L /\ looksTo ops c j = true := hlive.imp id (fun ⟨c, h1, h2, h3⟩ => ⟨c, h1, fun hc => h2 (List.mem_append_left _ hc), h3⟩)
    refine hRE j i _ W W' (hLm j h) him (fun e => hiL (e ▸ h)) ?_ (hR j h hlive') hEW
    unfold outlasts
    rw [Bool.and_eq_true, Bool.not_eq_true', Bool.or_eq_true]
    refine ⟨?_, ?_⟩
    ·cases hx : comesAfter ops m j i
     ·rfl
     exact absurd (comesAfter_mem hcl m j i h hx) hiL
    rcases hlive with hk | ⟨c, h1, h2, h3⟩
    ·exact Or.inl (List.contains_iff_mem.2 hk)
    refine Or.inr (List.any_eq_true.2 ⟨c, by simpa using h1, ?_⟩)
    rw [h3, Bool.and_true, Bool.and_eq_true, bne_iff_ne, Bool.not_eq_true']
    refine ⟨fun e => by subst e; exact h2 (by simp), ?_⟩
    cases hx : comesAfter ops m i c
    ·rfl
    exact absurd (List.mem_append_left _ (comesAfter_ready hcl ho hdepL m c hx)) h2
   simp at h; subst h; simpa [upd] using hRv
  -- the last one
  obtain rfl : i = m := by omega
  have hcov : ∀ j, j < i -> j ∈ L := fun j hj => by
   obtain ⟨e, he, hb, rfl⟩ := (hspec i o ho).2.2.2 rfl j hj
   exact hdepL e he hb
  have hf := hfin L vs W hnd hLm hcov hE hR
  rw [if_neg (by omega)] at hf
  refine wpOp_mono (fun a' W' hq => ?_) hf
  refine wpAny_done ?_ hq fuel
  rw [List.eq_nil_iff_forall_not_mem]
  intro j hj
  obtain ⟨h0', o', ho', _⟩ := mem_ready.1 hj
  have hjs := (Array.getElem?_eq_some_iff.1 ho').1
  have : j ∈ L ++ [i] := by
   by_cases hji : j < i
   ·exact List.mem_append_left _ (hcov j hji)
   have : j = i := by omega
   simp [this]
  rw [(hlist j hjs).2 this] at h0'; cases h0'
theorem wp_region_growL {id : Nat} {w : World} (hm : P.follows .mixedOrders = true) (hok : okGrow ops m = true) (hG : G [] w.drew) (hRE : ∀ i k v W W', i < m -> k < m -> i ≠ k -> outlasts ops m Kp i k = true -> R i v W -> E k W W' -> R i v W')
  (hstep : ∀ i o, i < m -> ops[i]? = some o -> ∀ L vs W, i ∉ L -> (∀ j ∈ L, comesAfter ops m j i = false) -> G L W -> (∀ e ∈ o.after, isData e = true -> R e.on (vs e.on) W) -> ∀ ρ, Sees ops a m vs ρ -> GivesOp P o ρ W (fun v W' => E i W W' /\ G (L ++ [i]) W' /\ R i v W'))
  (hend : ∀ L vs W, (∀ j, j < m -> j ∈ L) -> G L W -> (∀ j ∈ Kp, j < m -> R j (vs j) W) -> if m = ops.size then Q .normal (acts ops a vs (List.range m)) W else wpOp P ops Q m (fun a w => Q .normal a w) (acts ops a vs (List.range m)) W) :
  (Code.region id ops true).wp P Q a w := by
 refine wp_region_any hm ?_
 refine wpAny_grow Kp G E R hok hRE hstep hend ops.size [] (fun _ => undef) _ _ (by simp) (fun j hj => ?_) List.nodup_nil (fun j hj => by simp at hj) ?_ hG (fun j hj => by simp at hj) (fun j hj => by simp at hj)
 ·simp [hj]
 exact Nat.le_trans (List.length_filter_le _ _) (by simp)
end
section
variable {P : Program} {ops : Array Oper} {Q : Exit -> Act -> World -> Prop} {a : Act} {m : Nat} (Kp : ZN) (G : World -> Prop) (E : Nat -> World -> World -> Prop) (R : Nat -> Value -> World -> Prop)
theorem wp_region_grow {id : Nat} {w : World} (hm : P.follows .mixedOrders = true) (hok : okGrow ops m = true) (hG : G w.drew) (hRE : ∀ i k v W W', i < m -> k < m -> i ≠ k -> outlasts ops m Kp i k = true -> R i v W -> E k W W' -> R i v W')
  (hstep : ∀ i o, i < m -> ops[i]? = some o -> ∀ vs W, G W -> (∀ e ∈ o.after, isData e = true -> R e.on (vs e.on) W) -> ∀ ρ, Sees ops a m vs ρ -> GivesOp P o ρ W (fun v W' => E i W W' /\ G W' /\ R i v W'))
  (hend : ∀ vs W, G W -> (∀ j ∈ Kp, j < m -> R j (vs j) W) -> if m = ops.size then Q .normal (acts ops a vs (List.range m)) W else wpOp P ops Q m (fun a w => Q .normal a w) (acts ops a vs (List.range m)) W) :
  (Code.region id ops true).wp P Q a w :=
 wp_region_growL Kp (fun _ W => G W) E R hm hok hG hRE (fun i o hi ho _ vs W _ _ => hstep i o hi ho vs W) (fun _ vs W _ => hend vs W)
end
theorem Sees.i {ops : Array Oper} {a : Act} {m : Nat} {vs : Nat -> Value} {ρ : Operand -> Value} (h : Sees ops a m vs ρ) (j t : Nat) (h1 : j < m := by omega) (h2 : dstAt ops j = some t := by rfl) (h3 : Nat.ble (t + 1) a.tmps.size = true := by rfl) : ρ (.tmp t) = vs j := h.ins j t h1 h2 (Nat.le_of_ble_eq_true h3)
theorem gives_append {t e : TypeId} {z : Value} {size bytes : Nat} (E : ElemT t e z size bytes) {ρ : Operand -> Value} {W : World} {T : Value -> World -> Prop} {dst : Option Tmp} {ty : TypeId} {pos : String} {after : Array Edge} {guard : Option (Nat × Bool)}
  (s x : Operand) (base : Nat) (v : Value) (n : Nat) (xs : List Value) (hs : ρ s = v) (B m c : Nat) (news : List Value) (hx : ρ x = .slice (some ⟨B, 0, none⟩) m c) (hl : news.length = m * size) (h1 : ∀ u ∈ news, u.oneCell' = true) (hm : 0 < m) (hn : n + m <= 100000000) (hb : bytes <= 1000)
  (hown : W.ownsRow base e size v n xs) (hnews : ∀ j (h : j < news.length), W.cell? ⟨B, j, none⟩ = some news[j]) (hbase : base <= W.heap.size)
  (h : ∀ g cap w', w'.ownsRow base e size (.slice (some ⟨g, 0, none⟩) (n + m) cap) (n + m) (xs ++ news) -> W.grownBy w' v.ownBlock -> (v.ownBlock = some g \/ g = W.heap.size) -> g < w'.heap.size -> T (.slice (some ⟨g, 0, none⟩) (n + m) cap) w') :
  GivesOp Tryz.prog { dst := dst, op := .call { callee := .builtin .append, args := #[s, x], argTypes := #[t, t] }, type := ty, pos := pos, after := after, guard := guard } ρ W T := by
 obtain ⟨i, hi, hz, hsz, hby⟩ := info_parts E.info
 obtain ⟨g, cap, w', hrun, h2, h3, h4, h5⟩ := run_append_lies (P := Tryz.prog) W t ty base e i z size bytes E.ht hi hz hsz hby E.hzs E.hsz v n xs hown ⟨B, 0, none⟩ m c news hl (by
   intro j u hu
   obtain ⟨hj, rfl⟩ := List.getElem?_eq_some_iff.1 hu
   have : (⟨B, 0, none⟩ : Addr).add j = ⟨B, j, none⟩ := by unfold Addr.add; split <;> simp_all
   rw [this]
   exact hnews j hj) h1 hm (by simp only [maxLen]; omega) (by
   calc (n + m) * bytes <= 100000000 * 1000 := Nat.mul_le_mul hn hb
    _ <= 140737488355328 := by omega) hbase _ rfl
 unfold GivesOp
 have he : execOp ρ { dst := dst, op := .call { callee := .builtin .append, args := #[s, x], argTypes := #[t, t] }, type := ty, pos := pos, after := after, guard := guard } = (do pure (.value (<- Builtin.append_ #[t, t] ty #[v, .slice (some ⟨B, 0, none⟩) m c]))) := by
  rw [<- hs, <- hx, BigFrame.execOp_builtin, BigFrame.builtin_append]; simp
 rw [he]
 simp only [Sem.run_bind, hrun]
 exact h g cap w' h2 h3 h4 h5
theorem alloc_at {w : World} {o : Obj} {n : Nat} (h : n = w.heap.size) : (w.alloc o).heap[n]? = some o := by subst h; exact alloc_new w o
end Go.Proofs.YtefjomofjejklaaGreatDoor
