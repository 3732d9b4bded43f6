/-
  Texts of the claim, joined: Args, LaidP, Schema, Level1, Level3, Level6, Level7, Level9.
-/
import Derived.Test.YtpkljcgihobaiaaGreatDoorSg02
import Derived.Carry
import Derived.ChangeSlices
import Derived.SizedLaws
import Derived.Test.YtpkljcgihobaiaaGreatDoorRows
import Derived.Deep.AppendLies
import Derived.Deep.RegionLaw
import Derived.RegionTactic
namespace Go.Proofs.YtpkljcgihobaiaaGreatDoor
open Go.ChangeShapes Go.WideShapes Go.ChangeAt Go.RowKit
theorem laidOut : laidOutB Tryz.prog = true := by kernel_rfl
def rowedB (P : Program) (ts : List TypeId) : Bool := ts.all fun t => P.readableRec t && decide (t < P.types.size)
theorem args_again {H : Type} {enc : TypeId × Value → H} {P : Program} (hl : laidOutB P = true) {W W' : World} (hb : Ext W W') : ∀ {ts : List TypeId} {vs : List Value} {ds : List (DataW H)} {ps : List MemPlace}, rowedB P ts = true → DataW.TrodAll enc P W 0 (fun _ => true) true ts vs ds ps → (∀ x ∈ ps, x.block < W.heap.size) → DataW.TrodAll enc P W' 0 (fun b => decide (b < W.heap.size)) true ts vs ds ps
  | [], [], [], _, _, h, _ => h
  | t :: ts, v :: vs, d :: ds, ps, hr, h, hlt => by
    obtain ⟨p, q, h1, h2, e⟩ := h
    simp only [rowedB, List.all_cons, Bool.and_eq_true, decide_eq_true_eq] at hr
    subst e
    exact ⟨p, q, Below.trod hl hr.1.1 hr.1.2 h1 hb (fun x hx => hlt x (by simp [hx])), args_again hl hb (by simpa [rowedB] using hr.2) h2 (fun x hx => hlt x (by simp [hx])), rfl⟩
  | [], _ :: _, _, _, _, h, _ => by simp [DataW.TrodAll] at h
  | [], [], _ :: _, _, _, h, _ => by simp [DataW.TrodAll] at h
  | _ :: _, [], _, _, _, h, _ => by simp [DataW.TrodAll] at h
  | _ :: _, _ :: _, [], _, _, h, _ => by simp [DataW.TrodAll] at h
set_option maxRecDepth 100000 in
theorem law_post2 {H : Type} {enc : TypeId × Value → H} {f : Func} {s : ChangeSpec} {W W' : World} {args : Array Value} {ds : List (DataW H)} {before : List MemPlace}
    (hW : DataW.Whole enc Tryz.prog f.params.toList s.vars false W args.toList ds [] before) (hv : s.vars = []) (hrt : f.resultTypes = #[4]) (hfn : (s.fn H (ds ++ [])).results = [.lit (.bool true)]) (hfa : (s.fn H (ds ++ [])).args = ds) (hfv : (s.fn H (ds ++ [])).vars = []) (hrw : rowedB Tryz.prog f.params.toList = true)
    (hx : Ext W W') : s.post enc Tryz.prog f false true false false W args (.bool true) W' := by
  have hW2 := hW
  obtain ⟨p, q, hA, hV, rfl, hfz, hnd⟩ := hW2
  rw [hv] at hV
  obtain ⟨_, rfl⟩ := trodVars_none hV
  have hlt : ∀ x ∈ p ++ [], x.block < W.heap.size := fun x hx => by simpa using hW.lt x hx
  simp only [List.append_nil] at *
  have hres : ∀ (b : Nat) (sp : Nat → Bool) (hd : Bool), DataW.TrodAll enc Tryz.prog W' b sp hd f.resultTypes.toList ((Value.bool true).resultList f.resultTypes.size) (s.fn H (ds ++ [])).results [] := by
    intro b sp hd
    rw [hrt, List.append_nil, hfn]
    exact trodAll_cons_mk (shut_bool uB _) trodAll_mk0
  refine ⟨ds, [], p, [], p, [], hW, hres _ _ _, by rw [List.append_nil, hfa]; exact args_again laidOut hx hrw hA hlt, ?_, World.keptBut_mono (fun p hp => hp) (Below.frame hx _), fun h => by cases h⟩
  rw [hv, List.append_nil, hfv]
  rfl
theorem uIs : Tryz.prog.underlying 22 = some (.slice 3) := by kernel_rfl
theorem bInt : Tryz.prog.bytesOf 3 = 8 := by kernel_rfl
set_option maxRecDepth 100000 in
theorem ints_arg {H : Type} {enc : TypeId × Value → H} {W : World} {base : Nat} {v : Value} {d : DataW H} {p : List MemPlace} {ts : List TypeId} {ds : List (DataW H)} {j : Nat} (hval : Value.okWide Tryz.prog W .any base 22 v) (h : DataW.Trod enc Tryz.prog W 0 (fun _ => true) true 22 v d p)
    (hs : (DataW.weightsEach Tryz.prog ts ds).all (· ≤ reachBytes) = true) (ht : ts[j]? = some 22) (hd : ds[j]? = some d) : ∃ a n c, v = .slice a n c ∧ IntsAt W a n ∧ n ≤ 1000000000000000 := by
  obtain ⟨a, n, c, rfl⟩ := okWide_slice uIs hval
  refine ⟨a, n, c, rfl, ?_⟩
  obtain ⟨fuel, hf⟩ := h
  rcases open_ints uIs uI cI hf with ⟨hcs, hx⟩ | ⟨ad, len, cap, zs, hcs, _, hl, hm, hz, hx, hcell, hw⟩
  · simp [Value.cells] at hcs
    obtain ⟨rfl, rfl, rfl⟩ := hcs
    exact ⟨fun i hi => by omega, by omega⟩
  · simp [Value.cells] at hcs
    obtain ⟨rfl, rfl, rfl⟩ := hcs
    simp only [Prod.mk.injEq] at hx
    obtain ⟨rfl, rfl⟩ := hx
    simp only [if_true] at hz
    have hb := sized_slice hs ht hd uIs
    rw [bInt] at hb
    simp only [lits, List.length_map, List.length_take, List.length_drop] at hb
    have hr := reachBytes_lt
    refine ⟨fun i hi => ?_, by omega⟩
    obtain ⟨b, off, spot⟩ := ad
    have h0 := hcell 0 (by omega)
    have hsp : spot = none := by
      cases spot with
      | none => rfl
      | some x =>
        exfalso
        simp only [Addr.add, if_true, World.cell?] at h0
        split at h0 <;> simp at h0
    subst hsp
    have := hcell i (by omega)
    refine ⟨b, off, zs.getD i 0, rfl, ?_⟩
    rw [← this]
    congr 1
    unfold Addr.add
    split <;> simp_all
open Go.ChangeShapes Go.WideShapes Go.ChangeAt Go.WideMaps Go.WideElems Go.RowKit
set_option maxRecDepth 100000 in
theorem hasOps_of_laid {W : World} (h : laidMetH Tryz.prog Rows.proofDualRow.laid W) : HasOps W := by
  rw [MakeChecks.laidMetH_plain _ _ _ (by kernel_rfl)] at h
  obtain ⟨ps, ⟨g1, t1, cs1, f1, p1, q1, hg1, ht1, hv1, hd1, _, _⟩, _, _⟩ := h
  obtain rfl := Option.some.inj (gOps.symm.trans hg1)
  obtain rfl := Option.some.inj (tOps.symm.trans ht1)
  obtain ⟨xs, m, rfl, hx, hlen, hn, hel⟩ := DataW.trod_array uOps hd1
  simp only [Prod.mk.injEq] at hx
  have hx1 := hx.1
  intro k hk
  have hD : (xs.map (·.1))[k]? = some (.agg [.lit (.string (opWord k).data.toList), .lit (.bool (opNamed k)), .lit (.int .i64 (opLeast k)), .lit (.int .i64 (opMost k)), .lit (.int .i64 (opBinds k))]) := by
    unfold Rows.laid_treaty_syntax_operators at hx1
    injection hx1 with hx1
    rw [← hx1]
    have hk' : k = 0 ∨ k = 1 ∨ k = 2 ∨ k = 3 ∨ k = 4 ∨ k = 5 ∨ k = 6 ∨ k = 7 ∨ k = 8 := by omega
    rcases hk' with rfl | rfl | rfl | rfl | rfl | rfl | rfl | rfl | rfl <;> rfl
  rw [List.getElem?_map] at hD
  have hek := hel k hk
  cases hy : xs[k]? with
  | none => rw [hy] at hD; cases hD
  | some y =>
    rw [hy] at hD hek
    simp only [Option.map_some, Option.some.injEq] at hD
    rw [cOp] at hek
    have hc := op_cells hek hD
    have key : ∀ j, j < 5 → W.cell? ⟨0, k * 5 + j, none⟩ = ([.string (opWord k), .bool (opNamed k), .int .i64 (opLeast k), .int .i64 (opMost k), .int .i64 (opBinds k)] : List Value)[j]? := by
      intro j hj
      have e1 : (⟨(opWord k).data.toList.toArray⟩ : ByteArray) = opWord k := by simp
      rw [World.var?_cell hg1 hv1 (k * 5 + j), ← e1, ← hc, List.getElem?_take, if_pos hj, List.getElem?_drop]
      simp
    have k0 := key 0 (by omega)
    rw [Nat.add_zero] at k0
    exact ⟨k0, key 1 (by omega), key 2 (by omega), key 3 (by omega), key 4 (by omega)⟩
open Go.RowKit
structure Attr where
  name : ByteArray
  kind : Int
  words : List ByteArray
  lo : Int
  hi : Int
def AttrAt (w : World) (x : Attr) (b off : Nat) : Prop := ∃ aw nw cw, w.cell? ⟨b, off, none⟩ = some (.string x.name) ∧ w.cell? ⟨b, off + 1, none⟩ = some (.int .i64 x.kind) ∧ w.cell? ⟨b, off + 2, none⟩ = some (.slice aw nw cw) ∧ w.cell? ⟨b, off + 3, none⟩ = some (.int .i64 x.lo) ∧
  w.cell? ⟨b, off + 4, none⟩ = some (.int .i64 x.hi) ∧ IsStrs w x.words aw nw cw
def IsSchema (w : World) (l : List Attr) (v : Value) : Prop := ∃ a n c, v = .agg #[.slice a n c] ∧ n = l.length ∧ n ≤ c ∧ OkAddr a c ∧ ∀ i (h : i < l.length), ∃ b off, a = some ⟨b, off, none⟩ ∧ AttrAt w l[i] b (off + i * 5)
theorem AttrAt.mono {w w' : World} {x : Attr} {b off : Nat} (h : AttrAt w x b off) (hs : Sub w w') : AttrAt w' x b off := by
  obtain ⟨aw, nw, cw, h0, h1, h2, h3, h4, h5⟩ := h
  exact ⟨aw, nw, cw, hs _ _ h0, hs _ _ h1, hs _ _ h2, hs _ _ h3, hs _ _ h4, h5.mono hs⟩
theorem IsSchema.mono {w w' : World} {l : List Attr} {v : Value} (h : IsSchema w l v) (hs : Sub w w') : IsSchema w' l v := by
  obtain ⟨a, n, c, h1, h2, h3, h4, h5⟩ := h
  exact ⟨a, n, c, h1, h2, h3, h4, fun i hi => by obtain ⟨b, off, e1, e2⟩ := h5 i hi; exact ⟨b, off, e1, e2.mono hs⟩⟩
def aPeril : Attr := ⟨⟨#[112, 101, 114, 105, 108]⟩, 1, [⟨#[102, 105, 114, 101]⟩, ⟨#[102, 108, 111, 111, 100]⟩, ⟨#[119, 105, 110, 100]⟩, ⟨#[116, 104, 101, 102, 116]⟩], 0, 0⟩
def schemas : List (List Attr) := [[aPeril, ⟨⟨#[115, 116, 111, 114, 101, 121, 115]⟩, 2, [], 1, 9⟩, ⟨⟨#[97, 108, 97, 114, 109]⟩, 3, [], 0, 0⟩],
  [⟨⟨#[110]⟩, 2, [], -5, 20⟩],
  [⟨⟨#[97]⟩, 3, [], 0, 0⟩, ⟨⟨#[114, 111, 108, 101]⟩, 1, [⟨#[99, 114, 101, 119]⟩, ⟨#[103, 117, 101, 115, 116]⟩], 0, 0⟩, ⟨⟨#[98]⟩, 3, [], 0, 0⟩],
  [⟨⟨#[110]⟩, 2, [], -1000000000, 1000000000⟩, ⟨⟨#[116]⟩, 3, [], 0, 0⟩],
  [⟨⟨#[111, 110, 101]⟩, 1, [⟨#[111, 110, 108, 121]⟩], 0, 0⟩, aPeril, ⟨⟨#[110]⟩, 2, [], 0, 6⟩, ⟨⟨#[116]⟩, 3, [], 0, 0⟩],
  [⟨⟨#[116]⟩, 3, [], 0, 0⟩]]
theorem within_calls (x n : Int) (w : World) (hn : 0 < n) (hn2 : n ≤ 1000000000000000000) : Calls Tryz.prog 26 #[.int .i64 x, .int .i64 n] w (fun e w' => ∃ r : Int, e = .returned (.int .i64 r) ∧ 0 ≤ r ∧ r < n ∧ w = w') := by
  go_enter Tryz.func26, Tryz.ntmps26
  go_wp2_with fail
  go_ret
  have a1 := Int.tmod_lt_of_pos x hn
  have a5 := Int.lt_tmod_of_pos x hn
  rw [IntWalk.wrap64_in (x.tmod n + n) (by omega)]
  exact ⟨_, rfl, Int.tmod_nonneg n (by omega), Int.tmod_lt_of_pos (x.tmod n + n) hn, rfl⟩
theorem isStrs_set {w : World} {l : List ByteArray} {g n c : Nat} (h : IsStrs w l (some ⟨g, 0, none⟩) n c) {b : Nat} (hb : g ≠ b) (u : Value) (o : Obj) : IsStrs ((w.setCell ⟨b, 0, none⟩ u).alloc o) l (some ⟨g, 0, none⟩) n c := by
  refine ⟨h.1, h.2.1, h.2.2.1, fun i hi => ?_⟩
  obtain ⟨b', off, e1, e2⟩ := h.2.2.2 i hi
  simp only [Option.some.injEq, Addr.mk.injEq, and_true] at e1
  obtain ⟨rfl, rfl⟩ := e1
  refine ⟨g, 0, rfl, Ext.cell ((Ext.refl _).alloc o) ?_⟩
  rw [World.cell?_setCell_other _ _ _ _ (fun e => hb (by injection e with e1; exact e1.symm))]
  exact e2
def PerilQ (w : World) (e : Ending) (w' : World) : Prop := ∃ g, e = .returned (.agg #[.string aPeril.name, .int .i64 1, .slice (some ⟨g, 0, none⟩) 4 4, .int .i64 0, .int .i64 0]) ∧ IsStrs w' aPeril.words (some ⟨g, 0, none⟩) 4 4 ∧ Ext w w' ∧ w.heap.size < g
theorem isStrs_block {w : World} {g : Nat} {l : List ByteArray} {t : TypeId} (h : w.heap[g]? = some (.cells (l.map Value.string).toArray t (0, 0))) {n : Nat} (hn : n = l.length) : IsStrs w l (some ⟨g, 0, none⟩) n n := by
  subst hn
  refine ⟨rfl, Nat.le_refl _, Or.inr ⟨g, 0, rfl⟩, fun i hi => ⟨g, 0, rfl, ?_⟩⟩
  rw [Nat.zero_add, blk_cell h]
  simp [hi]
structure AttrV where
  x : Attr
  a : Option Addr
  n : Nat
  c : Nat
def AttrV.cells (v : AttrV) : List Value := [.string v.x.name, .int .i64 v.x.kind, .slice v.a v.n v.c, .int .i64 v.x.lo, .int .i64 v.x.hi]
theorem isStrs_nil (w : World) : IsStrs w [] none 0 0 := ⟨rfl, by omega, Or.inl ⟨rfl, rfl⟩, fun i hi => by simp at hi⟩
theorem isSchema_block {w : World} {g : Nat} {avs : List AttrV} {t : TypeId} (h : w.heap[g]? = some (.cells (avs.flatMap AttrV.cells).toArray t (0, 0))) {n : Nat} (hn : n = avs.length) (hs : ∀ v ∈ avs, IsStrs w v.x.words v.a v.n v.c) : IsSchema w (avs.map (·.x)) (.agg #[.slice (some ⟨g, 0, none⟩) n n]) := by
  subst hn
  refine ⟨some ⟨g, 0, none⟩, _, _, rfl, by simp, Nat.le_refl _, Or.inr ⟨g, 0, rfl⟩, fun i hi => ⟨g, 0, rfl, ?_⟩⟩
  have hi' : i < avs.length := by simpa using hi
  have key : ∀ j (hj : j < 5), w.cell? ⟨g, i * 5 + j, none⟩ = some ((avs[i].cells)[j]'(by simp [AttrV.cells]; omega)) := by
    intro j hj
    rw [blk_cell h]
    have := flatMap_at AttrV.cells 5 (fun _ => rfl) avs i hi' j (by simp [AttrV.cells]; omega)
    simpa using this
  have e : (avs.map (·.x))[i] = avs[i].x := by simp
  rw [e, Nat.zero_add]
  exact ⟨avs[i].a, avs[i].n, avs[i].c, key 0 (by omega), key 1 (by omega), key 2 (by omega), key 3 (by omega), key 4 (by omega), hs _ (List.getElem_mem hi')⟩
set_option maxRecDepth 100000 in
theorem peril_calls (w : World) : Calls Tryz.prog 45 #[] w (PerilQ w) := by
  go_enter Tryz.func45, Tryz.ntmps45
  go_wp2_with fail
  refine bodyPost_ret (v := .agg #[.string aPeril.name, .int .i64 1, .slice (some ⟨w.heap.size + 1, 0, none⟩) 4 4, .int .i64 0, .int .i64 0]) (by simp [results, Tryz.results45, go_sem, aPeril]) rfl ?_
  refine ⟨_, rfl, isStrs_block (l := aPeril.words) (t := 9) ?_ rfl, ((Ext.refl w).alloc _).alloc _, by omega⟩
  have := alloc_new (w.alloc (.cells #[.string aPeril.name, .int .i64 1, .slice (some ⟨w.heap.size + 1, 0, none⟩) 4 4, .int .i64 0, .int .i64 0] 85)) (.cells (aPeril.words.map Value.string).toArray 9)
  simpa [aPeril] using this
theorem isStrs_mask {w : World} {M : List Nat} {l : List ByteArray} {a : Option Addr} {n c : Nat} (h : IsStrs w l a n c) (ha : ∀ b off, a = some ⟨b, off, none⟩ → b ∉ M) : IsStrs (mask w M) l a n c := by
  refine ⟨h.1, h.2.1, h.2.2.1, fun i hi => ?_⟩
  obtain ⟨b, off, e, hc⟩ := h.2.2.2 i hi
  exact ⟨b, off, e, by rw [mask_cell, if_neg (ha b off e)]; exact hc⟩
theorem mask_blk {w : World} {M : List Nat} {g : Nat} {o : Obj} (h : w.heap[g]? = some o) (hg : g ∉ M) : (mask w M).heap[g]? = some o := by
  unfold mask
  simp only [Array.getElem?_mapIdx, h, Option.map_some, hg, if_false]
def SchemaQ (M : List Nat) (w : World) (e : Ending) (w' : World) : Prop := ∃ l v, e = .returned v ∧ l ∈ schemas ∧ IsSchema (mask w' M) l v ∧ Ext w w'
theorem schemaQ_mk {w W : World} {g n : Nat} {l : List Attr} {M : List Nat} (hM : ∀ y ∈ M, y < w.heap.size) (avs : List AttrV) {t : TypeId} (hg : w.heap.size ≤ g) (ha : ∀ v ∈ avs, ∀ b off, v.a = some ⟨b, off, none⟩ → w.heap.size ≤ b) (h : W.heap[g]? = some (.cells (avs.flatMap AttrV.cells).toArray t (0, 0))) (hn : n = avs.length) (hl : avs.map (·.x) = l) (hm : l ∈ schemas) (hs : ∀ v ∈ avs, IsStrs W v.x.words v.a v.n v.c) (hx : Ext w W) :
    SchemaQ M w (.returned (.agg #[.slice (some ⟨g, 0, none⟩) n n])) W :=
  ⟨l, _, rfl, hm, hl ▸ isSchema_block (mask_blk h (fun hh => by have := hM _ hh; omega)) hn (fun v hv => isStrs_mask (hs v hv) (fun b off e hh => by have := hM _ hh; have := ha v hv b off e; omega)), hx⟩
set_option maxRecDepth 100000 in
set_option maxHeartbeats 1000000 in
theorem schema_calls (k : Int) (M : List Nat) (w : World) (hM : ∀ y ∈ M, y < w.heap.size) : Calls Tryz.prog 27 #[.int .i64 k] w (SchemaQ M w) := by
  have HMM := Lib.hid hM
  clear hM
  go_enter Tryz.func27, Tryz.ntmps27
  go_wp2_with fail
  refine (within_calls _ _ _ (by omega) (by omega)).mono ?_
  rintro e w' ⟨r, rfl, h0, h1, rfl⟩
  have h : r = 0 ∨ r = 1 ∨ r = 2 ∨ r = 3 ∨ r = 4 ∨ r = 5 := by omega
  clear h0 h1
  rcases h with rfl | rfl | rfl | rfl | rfl | rfl
  · go_wp2_with fail
    refine (peril_calls _).mono ?_
    rintro e w' ⟨g, rfl, hp, hx, hgn⟩
    simp at hgn
    have hwz := hx.size
    simp at hwz
    have hb := hx.blk (alloc_new w _)
    have hlt := blk_lt hb
    have c0 := blk_cell hb 0
    have cf := blk_free hb
    simp at c0
    have HX := Lib.hid (((Ext.refl w).alloc _).trans hx)
    have HP := Lib.hid hp
    clear hx hb hp
    go_wp2_with fail
    refine bodyPost_ret (v := .agg #[.slice (some ⟨w'.heap.size, 0, none⟩) 3 3]) (by simp [results, Tryz.results27, go_sem, c0, hlt]) rfl ?_
    refine schemaQ_mk HMM.out [⟨aPeril, some ⟨g, 0, none⟩, 4, 4⟩, ⟨⟨⟨#[115, 116, 111, 114, 101, 121, 115]⟩, 2, [], 1, 9⟩, none, 0, 0⟩, ⟨⟨⟨#[97, 108, 97, 114, 109]⟩, 3, [], 0, 0⟩, none, 0, 0⟩] (t := 85) (by omega) (by intro v hv b off he; simp only [List.mem_cons, List.not_mem_nil, or_false] at hv; (repeat' (rcases hv with rfl | hv)) <;> (try subst hv) <;> simp at he <;> omega) ?_ rfl rfl (by simp [schemas]) ?_ ?_
    · simpa [AttrV.cells, aPeril] using alloc_new (w'.setCell ⟨w.heap.size, 0, none⟩ (.slice (some ⟨w'.heap.size, 0, none⟩) 3 3)) (.cells #[.string aPeril.name, .int .i64 1, .slice (some ⟨g, 0, none⟩) 4 4, .int .i64 0, .int .i64 0, .string ⟨#[115, 116, 111, 114, 101, 121, 115]⟩, .int .i64 2, .slice none 0 0, .int .i64 1, .int .i64 9, .string ⟨#[97, 108, 97, 114, 109]⟩, .int .i64 3, .slice none 0 0, .int .i64 0, .int .i64 0] 85)
    · intro v hv
      simp only [List.mem_cons, List.not_mem_nil, or_false] at hv
      rcases hv with rfl | rfl | rfl
      · exact isStrs_set HP.out (by omega) _ _
      · exact isStrs_nil _
      · exact isStrs_nil _
    · exact (HX.out.setAbove (by simp) _).alloc _
  · go_wp2_with fail
    refine bodyPost_ret (v := .agg #[.slice (some ⟨w.heap.size + 1, 0, none⟩) 1 1]) (by simp [results, Tryz.results27, go_sem]) rfl ?_
    refine schemaQ_mk HMM.out [⟨⟨⟨#[110]⟩, 2, [], -5, 20⟩, none, 0, 0⟩] (t := 85) (by omega) (by intro v hv b off he; simp only [List.mem_cons, List.not_mem_nil, or_false] at hv; (repeat' (rcases hv with rfl | hv)) <;> (try subst hv) <;> simp at he <;> omega) ?_ rfl rfl (by simp [schemas]) (by intro v hv; simp at hv; subst hv; exact isStrs_nil _) (((Ext.refl w).alloc _).alloc _)
    simpa [AttrV.cells] using alloc_new (w.alloc (.cells #[.slice (some ⟨w.heap.size + 1, 0, none⟩) 1 1] 31)) (.cells #[.string ⟨#[110]⟩, .int .i64 2, .slice none 0 0, .int .i64 (-5), .int .i64 20] 85)
  · go_wp2_with fail
    refine bodyPost_ret (v := .agg #[.slice (some ⟨w.heap.size + 2, 0, none⟩) 3 3]) (by simp [results, Tryz.results27, go_sem]) rfl ?_
    refine schemaQ_mk HMM.out [⟨⟨⟨#[97]⟩, 3, [], 0, 0⟩, none, 0, 0⟩, ⟨⟨⟨#[114, 111, 108, 101]⟩, 1, [⟨#[99, 114, 101, 119]⟩, ⟨#[103, 117, 101, 115, 116]⟩], 0, 0⟩, some ⟨w.heap.size + 1, 0, none⟩, 2, 2⟩, ⟨⟨⟨#[98]⟩, 3, [], 0, 0⟩, none, 0, 0⟩] (t := 85) (by omega) (by intro v hv b off he; simp only [List.mem_cons, List.not_mem_nil, or_false] at hv; (repeat' (rcases hv with rfl | hv)) <;> (try subst hv) <;> simp at he <;> omega) ?_ rfl rfl (by simp [schemas]) ?_ ((((Ext.refl w).alloc _).alloc _).alloc _)
    · simpa [AttrV.cells] using alloc_new ((w.alloc (.cells #[.slice (some ⟨w.heap.size + 2, 0, none⟩) 3 3] 31)).alloc (.cells #[.string ⟨#[99, 114, 101, 119]⟩, .string ⟨#[103, 117, 101, 115, 116]⟩] 9)) (.cells #[.string ⟨#[97]⟩, .int .i64 3, .slice none 0 0, .int .i64 0, .int .i64 0, .string ⟨#[114, 111, 108, 101]⟩, .int .i64 1, .slice (some ⟨w.heap.size + 1, 0, none⟩) 2 2, .int .i64 0, .int .i64 0, .string ⟨#[98]⟩, .int .i64 3, .slice none 0 0, .int .i64 0, .int .i64 0] 85)
    · intro v hv
      simp only [List.mem_cons, List.not_mem_nil, or_false] at hv
      rcases hv with rfl | rfl | rfl
      · exact isStrs_nil _
      · refine isStrs_block (t := 9) (blk_alloc ?_) rfl
        simpa using alloc_new (w.alloc (.cells #[.slice (some ⟨w.heap.size + 2, 0, none⟩) 3 3] 31)) (.cells #[.string ⟨#[99, 114, 101, 119]⟩, .string ⟨#[103, 117, 101, 115, 116]⟩] 9)
      · exact isStrs_nil _
  · go_wp2_with fail
    refine bodyPost_ret (v := .agg #[.slice (some ⟨w.heap.size + 1, 0, none⟩) 2 2]) (by simp [results, Tryz.results27, go_sem]) rfl ?_
    refine schemaQ_mk HMM.out [⟨⟨⟨#[110]⟩, 2, [], -1000000000, 1000000000⟩, none, 0, 0⟩, ⟨⟨⟨#[116]⟩, 3, [], 0, 0⟩, none, 0, 0⟩] (t := 85) (by omega) (by intro v hv b off he; simp only [List.mem_cons, List.not_mem_nil, or_false] at hv; (repeat' (rcases hv with rfl | hv)) <;> (try subst hv) <;> simp at he <;> omega) ?_ rfl rfl (by simp [schemas]) ?_ (((Ext.refl w).alloc _).alloc _)
    · simpa [AttrV.cells] using alloc_new (w.alloc (.cells #[.slice (some ⟨w.heap.size + 1, 0, none⟩) 2 2] 31)) (.cells #[.string ⟨#[110]⟩, .int .i64 2, .slice none 0 0, .int .i64 (-1000000000), .int .i64 1000000000, .string ⟨#[116]⟩, .int .i64 3, .slice none 0 0, .int .i64 0, .int .i64 0] 85)
    · intro v hv
      simp only [List.mem_cons, List.not_mem_nil, or_false] at hv
      rcases hv with rfl | rfl <;> exact isStrs_nil _
  · go_wp2_with fail
    refine (peril_calls _).mono ?_
    rintro e w' ⟨g, rfl, hp, hx, hgn⟩
    simp at hgn
    have hwz := hx.size
    simp at hwz
    have HO := Lib.hid (hx.blk (alloc_new (w.alloc (.cells #[.slice none 0 0] 31)) (.cells #[.string ⟨#[111, 110, 108, 121]⟩] 9)))
    have hb := hx.blk (blk_alloc (o' := .cells #[.string ⟨#[111, 110, 108, 121]⟩] 9) (alloc_new w (.cells #[.slice none 0 0] 31)))
    have hlt := blk_lt hb
    have c0 := blk_cell hb 0
    have cf := blk_free hb
    simp at c0
    have HX := Lib.hid ((((Ext.refl w).alloc _).alloc _).trans hx)
    have HP := Lib.hid hp
    clear hx hb hp
    go_wp2_with fail
    refine bodyPost_ret (v := .agg #[.slice (some ⟨w'.heap.size, 0, none⟩) 4 4]) (by simp [results, Tryz.results27, go_sem, c0, hlt]) rfl ?_
    refine schemaQ_mk HMM.out [⟨⟨⟨#[111, 110, 101]⟩, 1, [⟨#[111, 110, 108, 121]⟩], 0, 0⟩, some ⟨w.heap.size + 1, 0, none⟩, 1, 1⟩, ⟨aPeril, some ⟨g, 0, none⟩, 4, 4⟩, ⟨⟨⟨#[110]⟩, 2, [], 0, 6⟩, none, 0, 0⟩, ⟨⟨⟨#[116]⟩, 3, [], 0, 0⟩, none, 0, 0⟩] (t := 85) (by omega) (by intro v hv b off he; simp only [List.mem_cons, List.not_mem_nil, or_false] at hv; (repeat' (rcases hv with rfl | hv)) <;> (try subst hv) <;> simp at he <;> omega) ?_ rfl rfl (by simp [schemas]) ?_ ?_
    · simpa [AttrV.cells, aPeril] using alloc_new (w'.setCell ⟨w.heap.size, 0, none⟩ (.slice (some ⟨w'.heap.size, 0, none⟩) 4 4)) (.cells #[.string ⟨#[111, 110, 101]⟩, .int .i64 1, .slice (some ⟨w.heap.size + 1, 0, none⟩) 1 1, .int .i64 0, .int .i64 0, .string aPeril.name, .int .i64 1, .slice (some ⟨g, 0, none⟩) 4 4, .int .i64 0, .int .i64 0, .string ⟨#[110]⟩, .int .i64 2, .slice none 0 0, .int .i64 0, .int .i64 6, .string ⟨#[116]⟩, .int .i64 3, .slice none 0 0, .int .i64 0, .int .i64 0] 85)
    · intro v hv
      simp only [List.mem_cons, List.not_mem_nil, or_false] at hv
      rcases hv with rfl | rfl | rfl | rfl
      · refine isStrs_set (isStrs_block (t := 9) (l := [⟨#[111, 110, 108, 121]⟩]) ?_ rfl) (by simp) _ _
        simpa using HO.out
      · exact isStrs_set HP.out (by omega) _ _
      · exact isStrs_nil _
      · exact isStrs_nil _
    · exact (HX.out.setAbove (by simp) _).alloc _
  · go_wp2_with fail
    refine bodyPost_ret (v := .agg #[.slice (some ⟨w.heap.size + 1, 0, none⟩) 1 1]) (by simp [results, Tryz.results27, go_sem]) rfl ?_
    refine schemaQ_mk HMM.out [⟨⟨⟨#[116]⟩, 3, [], 0, 0⟩, none, 0, 0⟩] (t := 85) (by omega) (by intro v hv b off he; simp only [List.mem_cons, List.not_mem_nil, or_false] at hv; (repeat' (rcases hv with rfl | hv)) <;> (try subst hv) <;> simp at he <;> omega) ?_ rfl rfl (by simp [schemas]) (by intro v hv; simp at hv; subst hv; exact isStrs_nil _) (((Ext.refl w).alloc _).alloc _)
    simpa [AttrV.cells] using alloc_new (w.alloc (.cells #[.slice (some ⟨w.heap.size + 1, 0, none⟩) 1 1] 31)) (.cells #[.string ⟨#[116]⟩, .int .i64 3, .slice none 0 0, .int .i64 0, .int .i64 0] 85)
open Go.RowKit
structure Lvl where
  nots : Nat
  ands : List Part
  ors : List Part
open Go.RowKit
def itF : Nat → Part → Part
  | 0, p => p
  | n + 1, p => composedF 6 [itF n p]
open Go.RowKit
def lvl0 : Lvl := ⟨0, [], []⟩
open Go.RowKit
def prefixF (toks : List Tok) : Nat → Nat → List Lvl → Lvl → Nat × List Lvl × Lvl
  | 0, k, li, t => (k, li, t)
  | f + 1, k, li, t =>
    if acceptB toks k 1 wNot = true then prefixF toks f (k + 1) li ⟨t.nots + 1, t.ands, t.ors⟩ else
    if acceptB toks k 4 ⟨#[40]⟩ = true then prefixF toks f (k + 1) (li ++ [t]) lvl0 else (k, li, t)
open Go.RowKit
def withPart (t : Lvl) (p : Part) : Lvl := ⟨0, t.ands ++ [itF t.nots p], t.ors⟩
def wholeF (t : Lvl) : Part := joinedF 8 (t.ors ++ [joinedF 7 t.ands])
def runF (toks : List Tok) (tn : Nat) : Nat → Bool → Nat → List Lvl → Lvl → Part × Int × Nat
  | 0, _, k, _, _ => (⟨ex0, 0, 0⟩, 5, k)
  | f + 1, true, k, li, t =>
    let a := prefixF toks (tn - k + 1) k li t
    let o := operandF toks a.1
    if o.2.1 ≠ 0 then (⟨ex0, 0, 0⟩, o.2.1, o.2.2) else runF toks tn f false o.2.2 a.2.1 (withPart a.2.2 o.1)
  | f + 1, false, k, li, t =>
    if acceptB toks k 1 wAnd = true then runF toks tn f true (k + 1) li t else
    if acceptB toks k 1 wOr = true then runF toks tn f true (k + 1) li ⟨t.nots, [], t.ors ++ [joinedF 7 t.ands]⟩ else
    match li.getLast? with
    | none => (wholeF t, 0, k)
    | some t' => if acceptB toks k 4 ⟨#[41]⟩ = true then runF toks tn f false (k + 1) li.dropLast (withPart t' (wholeF t)) else (⟨ex0, 0, 0⟩, 5, k)
end Go.Proofs.YtpkljcgihobaiaaGreatDoor
