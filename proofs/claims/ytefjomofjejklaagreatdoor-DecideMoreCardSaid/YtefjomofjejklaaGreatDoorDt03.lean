/-
  Texts of the claim, joined: Args, LaidD, Gram, Tokens, Exs, Clause, Cla, Schema.
-/
import Derived.Test.YtefjomofjejklaaGreatDoorDt02
import Derived.Carry
import Derived.ChangeSlices
import Derived.SizedLaws
import Derived.Test.YtefjomofjejklaaGreatDoorRows
import Derived.Deep.AppendLies
import Derived.Deep.RegionLaw
import Derived.RegionTactic
namespace Go.Proofs.YtefjomofjejklaaGreatDoor
set_option maxRecDepth 100000
set_option maxHeartbeats 32000000
open Go.ChangeShapes Go.WideShapes Go.ChangeAt Go.RowKit
theorem laidOut : laidOutB Tryz.prog = true := by kernel_rfl
def rowedB (P : Program) (ts : List TypeId) : Bool := ts.all fun t => P.readableRec t && decide (t < P.types.size)
theorem args_again {H : Type} {enc : TypeId × Value -> H} {P : Program} (hl : laidOutB P = true) {W W' : World} (hb : Ext W W') : ∀ {ts : List TypeId} {vs : List Value} {ds : List (DataW H)} {ps : List MemPlace}, rowedB P ts = true -> DataW.TrodAll enc P W 0 (fun _ => true) true ts vs ds ps -> (∀ x ∈ ps, x.block < W.heap.size) -> DataW.TrodAll enc P W' 0 (fun b => decide (b < W.heap.size)) true ts vs ds ps
 | [], [], [], _, _, h, _ => h
 | t :: ts, v :: vs, d :: ds, ps, hr, h, hlt => by
  obtain ⟨p, q, h1, h2, e⟩ := h
  simp only [rowedB, List.all_cons, Bool.and_eq_true, decide_eq_true_eq] at hr
  subst e
  exact ⟨p, q, Below.trod hl hr.1.1 hr.1.2 h1 hb (fun x hx => hlt x (by simp [hx])), args_again hl hb (by simpa [rowedB] using hr.2) h2 (fun x hx => hlt x (by simp [hx])), rfl⟩
 | [], _ :: _, _, _, _, h, _ => by simp [DataW.TrodAll] at h
 | [], [], _ :: _, _, _, h, _ => by simp [DataW.TrodAll] at h
 | _ :: _, [], _, _, _, h, _ => by simp [DataW.TrodAll] at h
 | _ :: _, _ :: _, [], _, _, h, _ => by simp [DataW.TrodAll] at h
theorem law_post2 {H : Type} {enc : TypeId × Value -> H} {f : Func} {s : ChangeSpec} {W W' : World} {args : Array Value} {ds : List (DataW H)} {before : List MemPlace}
  (hW : DataW.Whole enc Tryz.prog f.params.toList s.vars false W args.toList ds [] before) (hv : s.vars = []) (hrt : f.resultTypes = #[4]) (hfn : (s.fn H (ds ++ [])).results = [.lit (.bool true)]) (hfa : (s.fn H (ds ++ [])).args = ds) (hfv : (s.fn H (ds ++ [])).vars = []) (hrw : rowedB Tryz.prog f.params.toList = true)
  (hx : Ext W W') : s.post enc Tryz.prog f false true false false W args (.bool true) W' := by
 have hW2 := hW
 obtain ⟨p, q, hA, hV, rfl, hfz, hnd⟩ := hW2
 rw [hv] at hV
 obtain ⟨_, rfl⟩ := trodVars_none hV
 have hlt : ∀ x ∈ p ++ [], x.block < W.heap.size := fun x hx => by simpa using hW.lt x hx
 simp only [List.append_nil] at *
 have hres : ∀ (b : Nat) (sp : Nat -> Bool) (hd : Bool), DataW.TrodAll enc Tryz.prog W' b sp hd f.resultTypes.toList ((Value.bool true).resultList f.resultTypes.size) (s.fn H (ds ++ [])).results [] := by
  intro b sp hd
  rw [hrt, List.append_nil, hfn]
  exact trodAll_cons_mk (shut_bool uB _) trodAll_mk0
 refine ⟨ds, [], p, [], p, [], hW, hres _ _ _, by rw [List.append_nil, hfa]; exact args_again laidOut hx hrw hA hlt, ?_, World.keptBut_mono (fun p hp => hp) (Below.frame hx _), fun h => by cases h⟩
 rw [hv, List.append_nil, hfv]
 rfl
theorem uIs : Tryz.prog.underlying 26 = some (.slice 3) := by kernel_rfl
theorem bInt : Tryz.prog.bytesOf 3 = 8 := by kernel_rfl
theorem ints_arg {H : Type} {enc : TypeId × Value -> H} {W : World} {base : Nat} {v : Value} {d : DataW H} {p : List MemPlace} {ts : List TypeId} {ds : List (DataW H)} {j : Nat} (hval : Value.okWide Tryz.prog W .any base 26 v) (h : DataW.Trod enc Tryz.prog W 0 (fun _ => true) true 26 v d p)
  (hs : (DataW.weightsEach Tryz.prog ts ds).all (· <= reachBytes) = true) (ht : ts[j]? = some 26) (hd : ds[j]? = some d) : ∃ a n c, v = .slice a n c /\ IntsAt W a n /\ n <= 1000000000000000 := by
 obtain ⟨a, n, c, rfl⟩ := okWide_slice uIs hval
 refine ⟨a, n, c, rfl, ?_⟩
 obtain ⟨fuel, hf⟩ := h
 rcases open_ints uIs uI cI hf with ⟨hcs, hx⟩ | ⟨ad, len, cap, zs, hcs, _, hl, hm, hz, hx, hcell, hw⟩
 ·simp [Value.cells] at hcs
  obtain ⟨rfl, rfl, rfl⟩ := hcs
  exact ⟨fun i hi => by omega, by omega⟩
 simp [Value.cells] at hcs
 obtain ⟨rfl, rfl, rfl⟩ := hcs
 simp only [Prod.mk.injEq] at hx
 obtain ⟨rfl, rfl⟩ := hx
 simp only [if_true] at hz
 have hb := sized_slice hs ht hd uIs
 rw [bInt] at hb
 simp only [lits, List.length_map, List.length_take, List.length_drop] at hb
 have hr := reachBytes_lt
 refine ⟨fun i hi => ?_, by omega⟩
 obtain ⟨b, off, spot⟩ := ad
 have h0 := hcell 0 (by omega)
 have hsp : spot = none := by
  cases spot with
  | none => rfl
  | some x =>
   exfalso
   simp only [Addr.add, if_true, World.cell?] at h0
   split at h0 <;> simp at h0
 subst hsp
 have := hcell i (by omega)
 refine ⟨b, off, zs.getD i 0, rfl, ?_⟩
 rw [<- this]
 congr 1
 unfold Addr.add
 split <;> simp_all
open Go.ChangeShapes Go.WideShapes Go.ChangeAt Go.WideMaps Go.WideElems Go.RowKit
theorem hasOps_of_laid {W : World} (h : laidMetH Tryz.prog Rows.decideVerdictRow.laid W) : HasOps W := by
 rw [MakeChecks.laidMetH_plain _ _ _ (by kernel_rfl)] at h
 obtain ⟨ps, ⟨g1, t1, cs1, f1, p1, q1, hg1, ht1, hv1, hd1, _, _⟩, _, _⟩ := h
 obtain rfl := Option.some.inj (gOps.symm.trans hg1)
 obtain rfl := Option.some.inj (tOps.symm.trans ht1)
 obtain ⟨xs, m, rfl, hx, hlen, hn, hel⟩ := DataW.trod_array uOps hd1
 simp only [Prod.mk.injEq] at hx
 have hx1 := hx.1
 intro k hk
 have hD : (xs.map (·.1))[k]? = some (.agg [.lit (.string (opWord k).data.toList), .lit (.bool (opNamed k)), .lit (.int .i64 (opLeast k)), .lit (.int .i64 (opMost k)), .lit (.int .i64 (opBinds k))]) := by
  unfold Rows.laid_treaty_syntax_operators at hx1
  injection hx1 with hx1
  rw [<- hx1]
  have hk' : k = 0 \/ k = 1 \/ k = 2 \/ k = 3 \/ k = 4 \/ k = 5 \/ k = 6 \/ k = 7 \/ k = 8 := by omega
  rcases hk' with rfl | rfl | rfl | rfl | rfl | rfl | rfl | rfl | rfl <;> rfl
 rw [List.getElem?_map] at hD
 have hek := hel k hk
 cases hy : xs[k]? with
 | none => rw [hy] at hD; cases hD
 | some y =>
  rw [hy] at hD hek
  simp only [Option.map_some, Option.some.injEq] at hD
  rw [cOp] at hek
  have hc := op_cells hek hD
  have key : ∀ j, j < 5 -> W.cell? ⟨0, k * 5 + j, none⟩ = ([.string (opWord k), .bool (opNamed k), .int .i64 (opLeast k), .int .i64 (opMost k), .int .i64 (opBinds k)] : List Value)[j]? := by
   intro j hj
   have e1 : (⟨(opWord k).data.toList.toArray⟩ : BA) = opWord k := by simp
   rw [World.var?_cell hg1 hv1 (k * 5 + j), <- e1, <- hc, List.getElem?_take, if_pos hj, List.getElem?_drop]
   simp
  have k0 := key 0 (by omega)
  rw [Nat.add_zero] at k0
  exact ⟨k0, key 1 (by omega), key 2 (by omega), key 3 (by omega), key 4 (by omega)⟩
mutual
def Ex.depth : Ex -> Nat
 | .mk _ _ _ _ _ args => depths args + 1
def depths : List Ex -> Nat
 | [] => 0
 | e :: r => max e.depth (depths r)
end
theorem Ex.depth_eq (e : Ex) : e.depth = depths e.args + 1 := by cases e; simp [Ex.depth, Ex.args]
theorem Ex.size_eq (e : Ex) : e.size = 1 + sizes e.args := by cases e; simp [Ex.size, Ex.args]
theorem depths_mem {l : List Ex} {e : Ex} (h : e ∈ l) : e.depth <= depths l := by
 induction l with
 | nil => simp at h
 | cons a r ih =>
  rcases List.mem_cons.1 h with rfl | h
  ·simp only [depths]; omega
  have := ih h; simp only [depths]; omega
open Go.RowKit
def exV0 : ExV := ⟨0, ⟨#[]⟩, none, 0, 0, 0, 0, none, 0, 0⟩
theorem Chg.sub {N : ZN} {w w' : World} (h : Chg N w w') : Sub (mask w N) (mask w' N) := mask_sub_mask fun k hk hn => ⟨hn, h.block k hk hn⟩
theorem mask_less {M N : ZN} (w : World) (h : ∀ y ∈ M, y ∈ N) : Sub (mask w N) (mask w M) := mask_sub_mask fun k _ hn => ⟨fun h' => hn (h k h'), rfl⟩
def ExsR (w : World) (l : List Ex) (xs : List ExV) : Prop := l.length = xs.length /\ ∀ i (h1 : i < l.length) (h2 : i < xs.length), IsEx w l[i] xs[i].val
theorem ExsR.mono {w w' : World} {l : List Ex} {xs : List ExV} (h : ExsR w l xs) (hs : Sub w w') : ExsR w' l xs := ⟨h.1, fun i h1 h2 => (h.2 i h1 h2).mono hs⟩
theorem ExsR.nil (w : World) : ExsR w [] [] := ⟨rfl, fun i h => by simp at h⟩
theorem ExsR.snoc {w : World} {l : List Ex} {xs : List ExV} {e : Ex} {x : ExV} (h : ExsR w l xs) (hx : IsEx w e x.val) : ExsR w (l ++ [e]) (xs ++ [x]) := by
 refine ⟨by simp [h.1], fun i h1 h2 => ?_⟩
 by_cases hi : i < l.length
 ·have hi2 : i < xs.length := by rw [<- h.1]; exact hi
  simp only [List.getElem_append_left hi, List.getElem_append_left hi2]
  exact h.2 i hi hi2
 have e1 : i = l.length := by simp at h1; omega
 subst e1
 simp only [List.getElem_append_right (Nat.le_refl _), List.getElem_append_right (show xs.length <= l.length by rw [h.1]; exact Nat.le_refl _), Nat.sub_self, List.getElem_cons_zero]
 simpa [h.1] using hx
theorem exV_len (x : ExV) : x.cells.length = 6 := rfl
theorem exs_owns {w : World} {M : ZN} {base : Nat} {v : Value} {l : List Ex} {xs : List ExV} (h : w.ownsRow base 45 6 v l.length (xs.flatMap ExV.cells)) (hM : ∀ k, v.ownBlock = some k -> k ∉ M) (hR : ExsR (mask w M) l xs) :
  ∃ a c, v = .slice a l.length c /\ l.length <= c /\ OkAddr a c /\ ExsD (mask w M) l a := by
 rw [hR.1] at h
 obtain ⟨a, c, rfl, hr⟩ := IsRows.of_owns exV_len h
 refine ⟨a, c, by rw [hR.1], by rw [hR.1]; exact hr.2.1, hr.2.2.1, ?_⟩
 match l, hR with
 | [], _ => unfold ExsD; trivial
 | e :: r, hR =>
  obtain ⟨b, off, rfl, h1⟩ := hr.2.2.2 0 (by rw [<- hR.1]; simp)
  refine ExsD.of (e :: r) off xs hR.1 fun i h3 h4 => ⟨fun j hj => ?_, hR.2 i h3 h4⟩
  obtain ⟨b', off', e1, h5⟩ := hr.2.2.2 i h4
  simp only [Option.some.injEq, Addr.mk.injEq, and_true] at e1
  obtain ⟨rfl, rfl⟩ := e1
  rw [mask_cell, if_neg (hM _ rfl), h5 j (by rw [exV_len]; exact hj), List.getElem?_eq_getElem (by rw [exV_len]; exact hj)]
theorem exs_one {w : World} {M : ZN} {g : Nat} {e : Ex} {x : ExV} {t : TypeId} (h : w.heap[g]? = some (.cells x.cells.toArray t (0, 0))) (hM : g ∉ M) (hx : IsEx (mask w M) e x.val) : ExsD (mask w M) [e] (some ⟨g, 0, none⟩) := by
 refine ExsD.of [e] 0 [x] rfl fun i h1 h2 => ?_
 obtain rfl : i = 0 := by simp at h1; exact h1
 refine ⟨fun j hj => ?_, hx⟩
 rw [mask_cell, if_neg hM, blk_cell h]
 simp
theorem isEx_not {w : World} {M : ZN} {g : Nat} {e : Ex} {x : ExV} {t : TypeId} (h : w.heap[g]? = some (.cells x.cells.toArray t (0, 0))) (hM : g ∉ M) (hx : IsEx (mask w M) e x.val) :
  IsEx (mask w M) (.mk 6 ⟨#[]⟩ [] 0 0 [e]) (exV 6 ⟨#[]⟩ none 0 0 0 0 (some ⟨g, 0, none⟩) 1 1) :=
 IsEx.mk ⟨rfl, by omega, Or.inl ⟨rfl, rfl⟩, fun i hi => by simp at hi⟩ rfl (by simp) (Or.inr ⟨g, 0, rfl⟩) (exs_one h hM hx)
def put6 (w : World) (B : Nat) (x : ExV) : World := (((((w.setCell ⟨B, 0, none⟩ (.int .i64 x.op)).setCell ⟨B, 1, none⟩ (.string x.name)).setCell ⟨B, 2, none⟩ (.slice x.aw x.nw x.cw)).setCell ⟨B, 3, none⟩ (.int .i64 x.lo)).setCell ⟨B, 4, none⟩ (.int .i64 x.hi)).setCell ⟨B, 5, none⟩ (.slice x.aa x.na x.ca)
theorem put6_chg (w : World) (B : Nat) (x : ExV) {N : ZN} (h : B ∈ N) : Chg N w (put6 w B x) := by
 unfold put6
 repeat (with_reducible (refine Chg.setCell ?_ ?_ _))
 exact Chg.refl _ _
 all_goals exact Or.inl h
theorem put6_size (w : World) (B : Nat) (x : ExV) : (put6 w B x).heap.size = w.heap.size := by simp [put6]
structure ClV where
 kind : Int
 name : BA
 x : ExV
 au : OA
 nu : Nat
 cu : Nat
 amount : Int
def ClV.cells (c : ClV) : List Value := [.int .i64 c.kind, .string c.name, .int .i64 c.x.op, .string c.x.name, .slice c.x.aw c.x.nw c.x.cw, .int .i64 c.x.lo, .int .i64 c.x.hi, .slice c.x.aa c.x.na c.x.ca, .slice c.au c.nu c.cu, .int .i64 c.amount]
theorem ClV.len (c : ClV) : c.cells.length = 10 := rfl
structure Cl where
 kind : Int
 name : BA
 cond : Ex
def IsCls (w : World) (l : List Cl) (a : OA) (n c : Nat) : Prop :=
 ∃ vs : List ClV, IsRows w 10 ClV.cells vs a n c /\ l.length = vs.length /\ ∀ i (h1 : i < l.length) (h2 : i < vs.length), vs[i].kind = l[i].kind /\ vs[i].name = l[i].name /\ IsEx w l[i].cond vs[i].x.val
theorem IsCls.mono {w w' : World} {l : List Cl} {a : OA} {n c : Nat} (h : IsCls w l a n c) (hs : Sub w w') : IsCls w' l a n c := by
 obtain ⟨vs, h1, h2, h3⟩ := h
 exact ⟨vs, h1.mono hs, h2, fun i hi hv => ⟨(h3 i hi hv).1, (h3 i hi hv).2.1, (h3 i hi hv).2.2.mono hs⟩⟩
theorem IsCls.ext {w w' : World} {l : List Cl} {a : OA} {n c : Nat} (h : IsCls w l a n c) (he : Ext w w') : IsCls w' l a n c := h.mono he.sub
theorem IsCls.len {w : World} {l : List Cl} {a : OA} {n c : Nat} (h : IsCls w l a n c) : n = l.length := by
 obtain ⟨vs, h1, h2, _⟩ := h
 rw [h2]; exact h1.1
theorem IsCls.at {w : World} {l : List Cl} {a : OA} {n c : Nat} (h : IsCls w l a n c) {k : Nat} (hk : k < l.length) : ∃ (b off : Nat) (v : ClV), a = some ⟨b, off, none⟩ /\ v.kind = l[k].kind /\ v.name = l[k].name /\ IsEx w l[k].cond v.x.val /\ ∀ j (hj : j < v.cells.length), w.cell? ⟨b, off + k * 10 + j, none⟩ = some v.cells[j] := by
 obtain ⟨vs, h1, h2, h3⟩ := h
 have hk' : k < vs.length := by omega
 obtain ⟨b, off, e, hc⟩ := h1.2.2.2 k hk'
 obtain ⟨q1, q2, q3⟩ := h3 k hk hk'
 exact ⟨b, off, vs[k], e, q1, q2, q3, hc⟩
theorem IsCls.at10 {w : World} {l : List Cl} {a : OA} {n c : Nat} (h : IsCls w l a n c) {k : Nat} (hk : k < l.length) : ∃ (b off : Nat) (v : ClV), a = some ⟨b, off, none⟩ /\ v.kind = l[k].kind /\ v.name = l[k].name /\ IsEx w l[k].cond v.x.val /\
  w.cell? ⟨b, off + k * 10, none⟩ = some (.int .i64 v.kind) /\ w.cell? ⟨b, off + k * 10 + 1, none⟩ = some (.string v.name) /\ w.cell? ⟨b, off + k * 10 + 2, none⟩ = some (.int .i64 v.x.op) /\ w.cell? ⟨b, off + k * 10 + 3, none⟩ = some (.string v.x.name) /\
  w.cell? ⟨b, off + k * 10 + 4, none⟩ = some (.slice v.x.aw v.x.nw v.x.cw) /\ w.cell? ⟨b, off + k * 10 + 5, none⟩ = some (.int .i64 v.x.lo) /\ w.cell? ⟨b, off + k * 10 + 6, none⟩ = some (.int .i64 v.x.hi) /\ w.cell? ⟨b, off + k * 10 + 7, none⟩ = some (.slice v.x.aa v.x.na v.x.ca) /\
  w.cell? ⟨b, off + k * 10 + 8, none⟩ = some (.slice v.au v.nu v.cu) /\ w.cell? ⟨b, off + k * 10 + 9, none⟩ = some (.int .i64 v.amount) := by
 obtain ⟨b, off, v, e, q1, q2, q3, hc⟩ := h.at hk
 exact ⟨b, off, v, e, q1, q2, q3, hc 0 (by simp [ClV.len]), hc 1 (by simp [ClV.len]), hc 2 (by simp [ClV.len]), hc 3 (by simp [ClV.len]), hc 4 (by simp [ClV.len]), hc 5 (by simp [ClV.len]), hc 6 (by simp [ClV.len]), hc 7 (by simp [ClV.len]), hc 8 (by simp [ClV.len]), hc 9 (by simp [ClV.len])⟩
inductive Wb where
 | mk (name : BA) (cond : Ex) (unl : List Wb)
def Wb.name : Wb -> BA | .mk n _ _ => n
def Wb.cond : Wb -> Ex | .mk _ c _ => c
def Wb.unl : Wb -> List Wb | .mk _ _ u => u
structure Cla where
 kind : Int
 name : BA
 cond : Ex
 unl : List Wb
 amount : Int
def Cla.cl (c : Cla) : Cl := ⟨c.kind, c.name, c.cond⟩
structure WbV where
 name : BA
 x : ExV
 au : OA
 nu : Nat
 cu : Nat
def WbV.cells (v : WbV) : List Value := [.string v.name, .int .i64 v.x.op, .string v.x.name, .slice v.x.aw v.x.nw v.x.cw, .int .i64 v.x.lo, .int .i64 v.x.hi, .slice v.x.aa v.x.na v.x.ca, .slice v.au v.nu v.cu]
theorem WbV.len (c : WbV) : c.cells.length = 8 := rfl
def RowAt (w : World) (b off : Nat) (cs : List Value) : Prop := ∀ j (h : j < cs.length), w.cell? ⟨b, off + j, none⟩ = some cs[j]
theorem RowAt.mono {w w' : World} {b off : Nat} {cs : List Value} (h : RowAt w b off cs) (hs : Sub w w') : RowAt w' b off cs := fun j hj => hs _ _ (h j hj)
mutual
def WbD (w : World) : Wb -> OA -> Nat -> Nat -> Prop
 | .mk _ _ unl, au, nu, cu => nu = unl.length /\ nu <= cu /\ OkAddr au cu /\ WbsD w unl au
def WbsD (w : World) : List Wb -> OA -> Prop
 | [], _ => True
 | .mk name cond unl :: r, a => ∃ b off, a = some ⟨b, off, none⟩ /\ (∃ v : WbV, v.name = name /\ RowAt w b off v.cells /\ IsEx w cond v.x.val /\ v.nu = unl.length /\ v.nu <= v.cu /\ OkAddr v.au v.cu /\ WbsD w unl v.au) /\ WbsD w r (some ⟨b, off + 8, none⟩)
end
mutual
theorem WbD.mono {w w' : World} (he : Sub w w') : (e : Wb) -> (au : OA) -> (nu cu : Nat) -> WbD w e au nu cu -> WbD w' e au nu cu
 | .mk name cond unl, au, nu, cu, h => by
  unfold WbD at h ⊢
  exact ⟨h.1, h.2.1, h.2.2.1, WbsD.mono he unl au h.2.2.2⟩
theorem WbsD.mono {w w' : World} (he : Sub w w') : (l : List Wb) -> (a : OA) -> WbsD w l a -> WbsD w' l a
 | [], _, _ => by unfold WbsD; trivial
 | .mk name cond unl :: r, a, h => by
  unfold WbsD at h ⊢
  obtain ⟨b, off, rfl, ⟨v, h0, h1, h2, h3, h4, h5, h6⟩, hr⟩ := h
  exact ⟨b, off, rfl, ⟨v, h0, h1.mono he, h2.mono he, h3, h4, h5, WbsD.mono he unl v.au h6⟩, WbsD.mono he r _ hr⟩
end
theorem WbsD.at {w : World} : (l : List Wb) -> (a : OA) -> WbsD w l a -> (k : Nat) -> (hk : k < l.length) ->
  ∃ b off, a = some ⟨b, off, none⟩ /\ ∃ v : WbV, v.name = l[k].name /\ RowAt w b (off + k * 8) v.cells /\ IsEx w l[k].cond v.x.val /\ v.nu = l[k].unl.length /\ v.nu <= v.cu /\ OkAddr v.au v.cu /\ WbsD w l[k].unl v.au
 | [], _, _, k, hk => by simp at hk
 | .mk name cond unl :: r, a, h, 0, _ => by
  unfold WbsD at h
  obtain ⟨b, off, rfl, ⟨v, h0, h1, h2, h3, h4, h5, h6⟩, hr⟩ := h
  refine ⟨b, off, rfl, v, ?_⟩
  simp only [Nat.zero_mul, Nat.add_zero]
  exact ⟨h0, h1, h2, h3, h4, h5, h6⟩
 | .mk name cond unl :: r, a, h, k + 1, hk => by
  unfold WbsD at h
  obtain ⟨b, off, rfl, _, hr⟩ := h
  obtain ⟨b', off', e1, rest⟩ := WbsD.at r _ hr k (by simpa using hk)
  simp at e1
  obtain ⟨rfl, rfl⟩ := e1
  have e1 : off + 8 + k * 8 = off + (k + 1) * 8 := by omega
  rw [e1] at rest
  exact ⟨b, off, rfl, by simpa using rest⟩
theorem WbsD.of {w : World} {b : Nat} : (l : List Wb) -> (off : Nat) -> (vs : List WbV) -> l.length = vs.length -> (∀ i (h1 : i < l.length) (h2 : i < vs.length), vs[i].name = l[i].name /\ RowAt w b (off + i * 8) vs[i].cells /\ IsEx w l[i].cond vs[i].x.val /\ vs[i].nu = l[i].unl.length /\ vs[i].nu <= vs[i].cu /\ OkAddr vs[i].au vs[i].cu /\ WbsD w l[i].unl vs[i].au) -> WbsD w l (some ⟨b, off, none⟩)
 | [], _, _, _, _ => by unfold WbsD; trivial
 | .mk name cond unl :: r, off, [], hl, _ => by simp at hl
 | .mk name cond unl :: r, off, v :: vs, hl, h => by
  unfold WbsD
  obtain ⟨h0, h1, h2, h3, h4, h5, h6⟩ := h 0 (by simp) (by simp)
  simp only [List.getElem_cons_zero, Nat.zero_mul, Nat.add_zero] at h0 h1 h2 h3 h4 h5 h6
  refine ⟨b, off, rfl, ⟨v, h0, h1, h2, h3, h4, h5, h6⟩, WbsD.of r (off + 8) vs (by simpa using hl) fun i g1 g2 => ?_⟩
  have := h (i + 1) (by simpa using g1) (by simpa using g2)
  have e1 : off + (i + 1) * 8 = off + 8 + i * 8 := by omega
  rw [e1] at this
  simpa using this
def IsCla (w : World) (c : Cla) (v : ClV) : Prop := v.kind = c.kind /\ v.name = c.name /\ IsEx w c.cond v.x.val /\ v.nu = c.unl.length /\ v.nu <= v.cu /\ OkAddr v.au v.cu /\ WbsD w c.unl v.au /\ v.amount = c.amount
theorem IsCla.mono {w w' : World} {c : Cla} {v : ClV} (h : IsCla w c v) (hs : Sub w w') : IsCla w' c v :=
 ⟨h.1, h.2.1, h.2.2.1.mono hs, h.2.2.2.1, h.2.2.2.2.1, h.2.2.2.2.2.1, WbsD.mono hs _ _ h.2.2.2.2.2.2.1, h.2.2.2.2.2.2.2⟩
def IsClas (w : World) (l : List Cla) (a : OA) (n c : Nat) : Prop :=
 ∃ vs : List ClV, IsRows w 10 ClV.cells vs a n c /\ l.length = vs.length /\ ∀ i (h1 : i < l.length) (h2 : i < vs.length), IsCla w l[i] vs[i]
theorem IsClas.mono {w w' : World} {l : List Cla} {a : OA} {n c : Nat} (h : IsClas w l a n c) (hs : Sub w w') : IsClas w' l a n c := by
 obtain ⟨vs, h1, h2, h3⟩ := h
 exact ⟨vs, h1.mono hs, h2, fun i hi hv => (h3 i hi hv).mono hs⟩
theorem IsClas.ext {w w' : World} {l : List Cla} {a : OA} {n c : Nat} (h : IsClas w l a n c) (he : Ext w w') : IsClas w' l a n c := h.mono he.sub
theorem IsClas.len {w : World} {l : List Cla} {a : OA} {n c : Nat} (h : IsClas w l a n c) : n = l.length := by
 obtain ⟨vs, h1, h2, _⟩ := h
 rw [h2]; exact h1.1
theorem IsClas.cls {w : World} {l : List Cla} {a : OA} {n c : Nat} (h : IsClas w l a n c) : IsCls w (l.map Cla.cl) a n c := by
 obtain ⟨vs, h1, h2, h3⟩ := h
 refine ⟨vs, h1, by simpa using h2, fun i hi hv => ?_⟩
 have hi' : i < l.length := by simpa using hi
 have := h3 i hi' hv
 simp only [List.getElem_map, Cla.cl]
 exact ⟨this.1, this.2.1, this.2.2.1⟩
theorem IsClas.take {w : World} {l : List Cla} {a : OA} {n c : Nat} (h : IsClas w l a n c) {k : Nat} (hk : k <= n) : IsClas w (l.take k) a k c := by
 have hn := h.len
 obtain ⟨vs, ⟨g1, g2, g3, g4⟩, h2, h3⟩ := h
 refine ⟨vs.take k, ⟨by simp; omega, by omega, g3, fun i hi => ?_⟩, by simp [h2], fun i hi hv => ?_⟩
 ·have hi' : i < vs.length := by simp at hi; omega
  obtain ⟨b, off, e, hc⟩ := g4 i hi'
  refine ⟨b, off, e, fun j hj => ?_⟩
  simp only [List.getElem_take] at hj ⊢
  exact hc j hj
 simp only [List.getElem_take]
 exact h3 i (by simp at hi; omega) (by simp at hv; omega)
theorem IsClas.at {w : World} {l : List Cla} {a : OA} {n c : Nat} (h : IsClas w l a n c) {k : Nat} (hk : k < l.length) : ∃ (b off : Nat) (v : ClV), a = some ⟨b, off, none⟩ /\ IsCla w l[k] v /\ RowAt w b (off + k * 10) v.cells := by
 obtain ⟨vs, h1, h2, h3⟩ := h
 have hk' : k < vs.length := by omega
 obtain ⟨b, off, e, hc⟩ := h1.2.2.2 k hk'
 exact ⟨b, off, vs[k], e, h3 k hk hk', hc⟩
theorem RowAt.ten {w : World} {b off : Nat} {v : ClV} (h : RowAt w b off v.cells) : w.cell? ⟨b, off, none⟩ = some (.int .i64 v.kind) /\ w.cell? ⟨b, off + 1, none⟩ = some (.string v.name) /\ w.cell? ⟨b, off + 2, none⟩ = some (.int .i64 v.x.op) /\ w.cell? ⟨b, off + 3, none⟩ = some (.string v.x.name) /\
  w.cell? ⟨b, off + 4, none⟩ = some (.slice v.x.aw v.x.nw v.x.cw) /\ w.cell? ⟨b, off + 5, none⟩ = some (.int .i64 v.x.lo) /\ w.cell? ⟨b, off + 6, none⟩ = some (.int .i64 v.x.hi) /\ w.cell? ⟨b, off + 7, none⟩ = some (.slice v.x.aa v.x.na v.x.ca) /\
  w.cell? ⟨b, off + 8, none⟩ = some (.slice v.au v.nu v.cu) /\ w.cell? ⟨b, off + 9, none⟩ = some (.int .i64 v.amount) :=
 ⟨h 0 (by simp [ClV.len]), h 1 (by simp [ClV.len]), h 2 (by simp [ClV.len]), h 3 (by simp [ClV.len]), h 4 (by simp [ClV.len]), h 5 (by simp [ClV.len]), h 6 (by simp [ClV.len]), h 7 (by simp [ClV.len]), h 8 (by simp [ClV.len]), h 9 (by simp [ClV.len])⟩
theorem RowAt.eight {w : World} {b off : Nat} {v : WbV} (h : RowAt w b off v.cells) : w.cell? ⟨b, off, none⟩ = some (.string v.name) /\ w.cell? ⟨b, off + 1, none⟩ = some (.int .i64 v.x.op) /\ w.cell? ⟨b, off + 2, none⟩ = some (.string v.x.name) /\
  w.cell? ⟨b, off + 3, none⟩ = some (.slice v.x.aw v.x.nw v.x.cw) /\ w.cell? ⟨b, off + 4, none⟩ = some (.int .i64 v.x.lo) /\ w.cell? ⟨b, off + 5, none⟩ = some (.int .i64 v.x.hi) /\ w.cell? ⟨b, off + 6, none⟩ = some (.slice v.x.aa v.x.na v.x.ca) /\ w.cell? ⟨b, off + 7, none⟩ = some (.slice v.au v.nu v.cu) :=
 ⟨h 0 (by simp [WbV.len]), h 1 (by simp [WbV.len]), h 2 (by simp [WbV.len]), h 3 (by simp [WbV.len]), h 4 (by simp [WbV.len]), h 5 (by simp [WbV.len]), h 6 (by simp [WbV.len]), h 7 (by simp [WbV.len])⟩
structure Attr where
 name : BA
 kind : Int
 words : ZB
 lo : Int
 hi : Int
def AttrAt (w : World) (x : Attr) (b off : Nat) : Prop := ∃ aw nw cw, w.cell? ⟨b, off, none⟩ = some (.string x.name) /\ w.cell? ⟨b, off + 1, none⟩ = some (.int .i64 x.kind) /\ w.cell? ⟨b, off + 2, none⟩ = some (.slice aw nw cw) /\ w.cell? ⟨b, off + 3, none⟩ = some (.int .i64 x.lo) /\
 w.cell? ⟨b, off + 4, none⟩ = some (.int .i64 x.hi) /\ IsStrs w x.words aw nw cw
def IsSchema (w : World) (l : List Attr) (v : Value) : Prop := ∃ a n c, v = .agg #[.slice a n c] /\ n = l.length /\ n <= c /\ OkAddr a c /\ ∀ i (h : i < l.length), ∃ b off, a = some ⟨b, off, none⟩ /\ AttrAt w l[i] b (off + i * 5)
theorem AttrAt.mono {w w' : World} {x : Attr} {b off : Nat} (h : AttrAt w x b off) (hs : Sub w w') : AttrAt w' x b off := by
 obtain ⟨aw, nw, cw, h0, h1, h2, h3, h4, h5⟩ := h
 exact ⟨aw, nw, cw, hs _ _ h0, hs _ _ h1, hs _ _ h2, hs _ _ h3, hs _ _ h4, h5.mono hs⟩
theorem IsSchema.mono {w w' : World} {l : List Attr} {v : Value} (h : IsSchema w l v) (hs : Sub w w') : IsSchema w' l v := by
 obtain ⟨a, n, c, h1, h2, h3, h4, h5⟩ := h
 exact ⟨a, n, c, h1, h2, h3, h4, fun i hi => by obtain ⟨b, off, e1, e2⟩ := h5 i hi; exact ⟨b, off, e1, e2.mono hs⟩⟩
def aPeril : Attr := ⟨⟨#[112, 101, 114, 105, 108]⟩, 1, [⟨#[102, 105, 114, 101]⟩, ⟨#[102, 108, 111, 111, 100]⟩, ⟨#[119, 105, 110, 100]⟩, ⟨#[116, 104, 101, 102, 116]⟩], 0, 0⟩
def schemas : List (List Attr) := [[aPeril, ⟨⟨#[115, 116, 111, 114, 101, 121, 115]⟩, 2, [], 1, 9⟩, ⟨⟨#[97, 108, 97, 114, 109]⟩, 3, [], 0, 0⟩],
 [⟨⟨#[110]⟩, 2, [], -5, 20⟩],
 [⟨⟨#[97]⟩, 3, [], 0, 0⟩, ⟨⟨#[114, 111, 108, 101]⟩, 1, [⟨#[99, 114, 101, 119]⟩, ⟨#[103, 117, 101, 115, 116]⟩], 0, 0⟩, ⟨⟨#[98]⟩, 3, [], 0, 0⟩],
 [⟨⟨#[110]⟩, 2, [], -1000000000, 1000000000⟩, ⟨⟨#[116]⟩, 3, [], 0, 0⟩],
 [⟨⟨#[111, 110, 101]⟩, 1, [⟨#[111, 110, 108, 121]⟩], 0, 0⟩, aPeril, ⟨⟨#[110]⟩, 2, [], 0, 6⟩, ⟨⟨#[116]⟩, 3, [], 0, 0⟩],
 [⟨⟨#[116]⟩, 3, [], 0, 0⟩]]
theorem within_calls (x n : Int) (w : World) (hn : 0 < n) (hn2 : n <= 1000000000000000000) : Calls Tryz.prog 16 #[.int .i64 x, .int .i64 n] w (fun e w' => ∃ r : Int, e = .returned (.int .i64 r) /\ 0 <= r /\ r < n /\ w = w') := by
 go_enter Tryz.func16, Tryz.ntmps16
 go_wp2_with fail
 go_ret
 have a1 := Int.tmod_lt_of_pos x hn
 have a5 := Int.lt_tmod_of_pos x hn
 rw [IntWalk.wrap64_in (x.tmod n + n) (by omega)]
 exact ⟨_, rfl, Int.tmod_nonneg n (by omega), Int.tmod_lt_of_pos (x.tmod n + n) hn, rfl⟩
theorem isStrs_set {w : World} {l : ZB} {g n c : Nat} (h : IsStrs w l (some ⟨g, 0, none⟩) n c) {b : Nat} (hb : g ≠ b) (u : Value) (o : Obj) : IsStrs ((w.setCell ⟨b, 0, none⟩ u).alloc o) l (some ⟨g, 0, none⟩) n c := by
 refine ⟨h.1, h.2.1, h.2.2.1, fun i hi => ?_⟩
 obtain ⟨b', off, e1, e2⟩ := h.2.2.2 i hi
 simp only [Option.some.injEq, Addr.mk.injEq, and_true] at e1
 obtain ⟨rfl, rfl⟩ := e1
 refine ⟨g, 0, rfl, Ext.cell ((Ext.refl _).alloc o) ?_⟩
 rw [World.cell?_setCell_other _ _ _ _ (fun e => hb (by injection e with e1; exact e1.symm))]
 exact e2
def PerilQ (w : World) (e : Ending) (w' : World) : Prop := ∃ g, e = .returned (.agg #[.string aPeril.name, .int .i64 1, .slice (some ⟨g, 0, none⟩) 4 4, .int .i64 0, .int .i64 0]) /\ IsStrs w' aPeril.words (some ⟨g, 0, none⟩) 4 4 /\ Ext w w' /\ w.heap.size < g
theorem isStrs_block {w : World} {g : Nat} {l : ZB} {t : TypeId} (h : w.heap[g]? = some (.cells (l.map Value.string).toArray t (0, 0))) {n : Nat} (hn : n = l.length) : IsStrs w l (some ⟨g, 0, none⟩) n n := by
 subst hn
 refine ⟨rfl, Nat.le_refl _, Or.inr ⟨g, 0, rfl⟩, fun i hi => ⟨g, 0, rfl, ?_⟩⟩
 rw [Nat.zero_add, blk_cell h]
 simp [hi]
structure AttrV where
 x : Attr
 a : OA
 n : Nat
 c : Nat
def AttrV.cells (v : AttrV) : List Value := [.string v.x.name, .int .i64 v.x.kind, .slice v.a v.n v.c, .int .i64 v.x.lo, .int .i64 v.x.hi]
theorem isStrs_nil (w : World) : IsStrs w [] none 0 0 := ⟨rfl, by omega, Or.inl ⟨rfl, rfl⟩, fun i hi => by simp at hi⟩
theorem isSchema_block {w : World} {g : Nat} {avs : List AttrV} {t : TypeId} (h : w.heap[g]? = some (.cells (avs.flatMap AttrV.cells).toArray t (0, 0))) {n : Nat} (hn : n = avs.length) (hs : ∀ v ∈ avs, IsStrs w v.x.words v.a v.n v.c) : IsSchema w (avs.map (·.x)) (.agg #[.slice (some ⟨g, 0, none⟩) n n]) := by
 subst hn
 refine ⟨some ⟨g, 0, none⟩, _, _, rfl, by simp, Nat.le_refl _, Or.inr ⟨g, 0, rfl⟩, fun i hi => ⟨g, 0, rfl, ?_⟩⟩
 have hi' : i < avs.length := by simpa using hi
 have key : ∀ j (hj : j < 5), w.cell? ⟨g, i * 5 + j, none⟩ = some ((avs[i].cells)[j]'(by simp [AttrV.cells]; omega)) := by
  intro j hj
  rw [blk_cell h]
  have := flatMap_at AttrV.cells 5 (fun _ => rfl) avs i hi' j (by simp [AttrV.cells]; omega)
  simpa using this
 have e : (avs.map (·.x))[i] = avs[i].x := by simp
 rw [e, Nat.zero_add]
 exact ⟨avs[i].a, avs[i].n, avs[i].c, key 0 (by omega), key 1 (by omega), key 2 (by omega), key 3 (by omega), key 4 (by omega), hs _ (List.getElem_mem hi')⟩
theorem peril_calls (w : World) : Calls Tryz.prog 55 #[] w (PerilQ w) := by
 go_enter Tryz.func55, Tryz.ntmps55
 go_wp2_with fail
 refine bodyPost_ret (v := .agg #[.string aPeril.name, .int .i64 1, .slice (some ⟨w.heap.size + 1, 0, none⟩) 4 4, .int .i64 0, .int .i64 0]) (by simp [results, Tryz.results55, go_sem, aPeril]) rfl ?_
 refine ⟨_, rfl, isStrs_block (l := aPeril.words) (t := 9) ?_ rfl, ((Ext.refl w).alloc _).alloc _, by omega⟩
 have := alloc_new (w.alloc (.cells #[.string aPeril.name, .int .i64 1, .slice (some ⟨w.heap.size + 1, 0, none⟩) 4 4, .int .i64 0, .int .i64 0] 101)) (.cells (aPeril.words.map Value.string).toArray 9)
 simpa [aPeril] using this
theorem isStrs_mask {w : World} {M : ZN} {l : ZB} {a : OA} {n c : Nat} (h : IsStrs w l a n c) (ha : ∀ b off, a = some ⟨b, off, none⟩ -> b ∉ M) : IsStrs (mask w M) l a n c := by
 refine ⟨h.1, h.2.1, h.2.2.1, fun i hi => ?_⟩
 obtain ⟨b, off, e, hc⟩ := h.2.2.2 i hi
 exact ⟨b, off, e, by rw [mask_cell, if_neg (ha b off e)]; exact hc⟩
theorem mask_blk {w : World} {M : ZN} {g : Nat} {o : Obj} (h : w.heap[g]? = some o) (hg : g ∉ M) : (mask w M).heap[g]? = some o := by
 unfold mask
 simp only [Array.getElem?_mapIdx, h, Option.map_some, hg, if_false]
def SchemaQ (M : ZN) (w : World) (e : Ending) (w' : World) : Prop := ∃ l v, e = .returned v /\ l ∈ schemas /\ IsSchema (mask w' M) l v /\ Ext w w'
theorem schemaQ_mk {w W : World} {g n : Nat} {l : List Attr} {M : ZN} (hM : ∀ y ∈ M, y < w.heap.size) (avs : List AttrV) {t : TypeId} (hg : w.heap.size <= g) (ha : ∀ v ∈ avs, ∀ b off, v.a = some ⟨b, off, none⟩ -> w.heap.size <= b) (h : W.heap[g]? = some (.cells (avs.flatMap AttrV.cells).toArray t (0, 0))) (hn : n = avs.length) (hl : avs.map (·.x) = l) (hm : l ∈ schemas) (hs : ∀ v ∈ avs, IsStrs W v.x.words v.a v.n v.c) (hx : Ext w W) :
  SchemaQ M w (.returned (.agg #[.slice (some ⟨g, 0, none⟩) n n])) W :=
 ⟨l, _, rfl, hm, hl ▸ isSchema_block (mask_blk h (fun hh => by have := hM _ hh; omega)) hn (fun v hv => isStrs_mask (hs v hv) (fun b off e hh => by have := hM _ hh; have := ha v hv b off e; omega)), hx⟩
theorem schema_calls (k : Int) (M : ZN) (w : World) (hM : ∀ y ∈ M, y < w.heap.size) : Calls Tryz.prog 26 #[.int .i64 k] w (SchemaQ M w) := by
 have HMM := hI hM
 clear hM
 go_enter Tryz.func26, Tryz.ntmps26
 go_wp2_with fail
 refine (within_calls _ _ _ (by omega) (by omega)).mono ?_
 rintro e w' ⟨r, rfl, h0, h1, rfl⟩
 have h : r = 0 \/ r = 1 \/ r = 2 \/ r = 3 \/ r = 4 \/ r = 5 := by omega
 clear h0 h1
 rcases h with rfl | rfl | rfl | rfl | rfl | rfl
 ·go_wp2_with fail
  refine (peril_calls _).mono ?_
  rintro e w' ⟨g, rfl, hp, hx, hgn⟩
  simp at hgn
  have hwz := hx.size
  simp at hwz
  have hb := hx.blk (alloc_new w _)
  have hlt := blk_lt hb
  have c0 := blk_cell hb 0
  have cf := blk_free hb
  simp at c0
  have HX := hI (((Ext.refl w).alloc _).trans hx)
  have HP := hI hp
  clear hx hb hp
  go_wp2_with fail
  refine bodyPost_ret (v := .agg #[.slice (some ⟨w'.heap.size, 0, none⟩) 3 3]) (by simp [results, Tryz.results26, go_sem, c0, hlt]) rfl ?_
  refine schemaQ_mk HMM.out [⟨aPeril, some ⟨g, 0, none⟩, 4, 4⟩, ⟨⟨⟨#[115, 116, 111, 114, 101, 121, 115]⟩, 2, [], 1, 9⟩, none, 0, 0⟩, ⟨⟨⟨#[97, 108, 97, 114, 109]⟩, 3, [], 0, 0⟩, none, 0, 0⟩] (t := 101) (by omega) (by intro v hv b off he; simp only [List.mem_cons, List.not_mem_nil, or_false] at hv; (repeat' (rcases hv with rfl | hv)) <;> (try subst hv) <;> simp at he <;> omega) ?_ rfl rfl (by simp [schemas]) ?_ ?_
  ·simpa [AttrV.cells, aPeril] using alloc_new (w'.setCell ⟨w.heap.size, 0, none⟩ (.slice (some ⟨w'.heap.size, 0, none⟩) 3 3)) (.cells #[.string aPeril.name, .int .i64 1, .slice (some ⟨g, 0, none⟩) 4 4, .int .i64 0, .int .i64 0, .string ⟨#[115, 116, 111, 114, 101, 121, 115]⟩, .int .i64 2, .slice none 0 0, .int .i64 1, .int .i64 9, .string ⟨#[97, 108, 97, 114, 109]⟩, .int .i64 3, .slice none 0 0, .int .i64 0, .int .i64 0] 101)
  ·intro v hv
   simp only [List.mem_cons, List.not_mem_nil, or_false] at hv
   rcases hv with rfl | rfl | rfl
   ·exact isStrs_set HP.out (by omega) _ _
   ·exact isStrs_nil _
   exact isStrs_nil _
  exact (HX.out.setAbove (by simp) _).alloc _
 ·go_wp2_with fail
  refine bodyPost_ret (v := .agg #[.slice (some ⟨w.heap.size + 1, 0, none⟩) 1 1]) (by simp [results, Tryz.results26, go_sem]) rfl ?_
  refine schemaQ_mk HMM.out [⟨⟨⟨#[110]⟩, 2, [], -5, 20⟩, none, 0, 0⟩] (t := 101) (by omega) (by intro v hv b off he; simp only [List.mem_cons, List.not_mem_nil, or_false] at hv; (repeat' (rcases hv with rfl | hv)) <;> (try subst hv) <;> simp at he <;> omega) ?_ rfl rfl (by simp [schemas]) (by intro v hv; simp at hv; subst hv; exact isStrs_nil _) (((Ext.refl w).alloc _).alloc _)
  simpa [AttrV.cells] using alloc_new (w.alloc (.cells #[.slice (some ⟨w.heap.size + 1, 0, none⟩) 1 1] 24)) (.cells #[.string ⟨#[110]⟩, .int .i64 2, .slice none 0 0, .int .i64 (-5), .int .i64 20] 101)
 ·go_wp2_with fail
  refine bodyPost_ret (v := .agg #[.slice (some ⟨w.heap.size + 2, 0, none⟩) 3 3]) (by simp [results, Tryz.results26, go_sem]) rfl ?_
  refine schemaQ_mk HMM.out [⟨⟨⟨#[97]⟩, 3, [], 0, 0⟩, none, 0, 0⟩, ⟨⟨⟨#[114, 111, 108, 101]⟩, 1, [⟨#[99, 114, 101, 119]⟩, ⟨#[103, 117, 101, 115, 116]⟩], 0, 0⟩, some ⟨w.heap.size + 1, 0, none⟩, 2, 2⟩, ⟨⟨⟨#[98]⟩, 3, [], 0, 0⟩, none, 0, 0⟩] (t := 101) (by omega) (by intro v hv b off he; simp only [List.mem_cons, List.not_mem_nil, or_false] at hv; (repeat' (rcases hv with rfl | hv)) <;> (try subst hv) <;> simp at he <;> omega) ?_ rfl rfl (by simp [schemas]) ?_ ((((Ext.refl w).alloc _).alloc _).alloc _)
  ·simpa [AttrV.cells] using alloc_new ((w.alloc (.cells #[.slice (some ⟨w.heap.size + 2, 0, none⟩) 3 3] 24)).alloc (.cells #[.string ⟨#[99, 114, 101, 119]⟩, .string ⟨#[103, 117, 101, 115, 116]⟩] 9)) (.cells #[.string ⟨#[97]⟩, .int .i64 3, .slice none 0 0, .int .i64 0, .int .i64 0, .string ⟨#[114, 111, 108, 101]⟩, .int .i64 1, .slice (some ⟨w.heap.size + 1, 0, none⟩) 2 2, .int .i64 0, .int .i64 0, .string ⟨#[98]⟩, .int .i64 3, .slice none 0 0, .int .i64 0, .int .i64 0] 101)
  intro v hv
  simp only [List.mem_cons, List.not_mem_nil, or_false] at hv
  rcases hv with rfl | rfl | rfl
  ·exact isStrs_nil _
  ·refine isStrs_block (t := 9) (blk_alloc ?_) rfl
   simpa using alloc_new (w.alloc (.cells #[.slice (some ⟨w.heap.size + 2, 0, none⟩) 3 3] 24)) (.cells #[.string ⟨#[99, 114, 101, 119]⟩, .string ⟨#[103, 117, 101, 115, 116]⟩] 9)
  exact isStrs_nil _
 ·go_wp2_with fail
  refine bodyPost_ret (v := .agg #[.slice (some ⟨w.heap.size + 1, 0, none⟩) 2 2]) (by simp [results, Tryz.results26, go_sem]) rfl ?_
  refine schemaQ_mk HMM.out [⟨⟨⟨#[110]⟩, 2, [], -1000000000, 1000000000⟩, none, 0, 0⟩, ⟨⟨⟨#[116]⟩, 3, [], 0, 0⟩, none, 0, 0⟩] (t := 101) (by omega) (by intro v hv b off he; simp only [List.mem_cons, List.not_mem_nil, or_false] at hv; (repeat' (rcases hv with rfl | hv)) <;> (try subst hv) <;> simp at he <;> omega) ?_ rfl rfl (by simp [schemas]) ?_ (((Ext.refl w).alloc _).alloc _)
  ·simpa [AttrV.cells] using alloc_new (w.alloc (.cells #[.slice (some ⟨w.heap.size + 1, 0, none⟩) 2 2] 24)) (.cells #[.string ⟨#[110]⟩, .int .i64 2, .slice none 0 0, .int .i64 (-1000000000), .int .i64 1000000000, .string ⟨#[116]⟩, .int .i64 3, .slice none 0 0, .int .i64 0, .int .i64 0] 101)
  intro v hv
  simp only [List.mem_cons, List.not_mem_nil, or_false] at hv
  rcases hv with rfl | rfl <;> exact isStrs_nil _
 ·go_wp2_with fail
  refine (peril_calls _).mono ?_
  rintro e w' ⟨g, rfl, hp, hx, hgn⟩
  simp at hgn
  have hwz := hx.size
  simp at hwz
  have HO := hI (hx.blk (alloc_new (w.alloc (.cells #[.slice none 0 0] 24)) (.cells #[.string ⟨#[111, 110, 108, 121]⟩] 9)))
  have hb := hx.blk (blk_alloc (o' := .cells #[.string ⟨#[111, 110, 108, 121]⟩] 9) (alloc_new w (.cells #[.slice none 0 0] 24)))
  have hlt := blk_lt hb
  have c0 := blk_cell hb 0
  have cf := blk_free hb
  simp at c0
  have HX := hI ((((Ext.refl w).alloc _).alloc _).trans hx)
  have HP := hI hp
  clear hx hb hp
  go_wp2_with fail
  refine bodyPost_ret (v := .agg #[.slice (some ⟨w'.heap.size, 0, none⟩) 4 4]) (by simp [results, Tryz.results26, go_sem, c0, hlt]) rfl ?_
  refine schemaQ_mk HMM.out [⟨⟨⟨#[111, 110, 101]⟩, 1, [⟨#[111, 110, 108, 121]⟩], 0, 0⟩, some ⟨w.heap.size + 1, 0, none⟩, 1, 1⟩, ⟨aPeril, some ⟨g, 0, none⟩, 4, 4⟩, ⟨⟨⟨#[110]⟩, 2, [], 0, 6⟩, none, 0, 0⟩, ⟨⟨⟨#[116]⟩, 3, [], 0, 0⟩, none, 0, 0⟩] (t := 101) (by omega) (by intro v hv b off he; simp only [List.mem_cons, List.not_mem_nil, or_false] at hv; (repeat' (rcases hv with rfl | hv)) <;> (try subst hv) <;> simp at he <;> omega) ?_ rfl rfl (by simp [schemas]) ?_ ?_
  ·simpa [AttrV.cells, aPeril] using alloc_new (w'.setCell ⟨w.heap.size, 0, none⟩ (.slice (some ⟨w'.heap.size, 0, none⟩) 4 4)) (.cells #[.string ⟨#[111, 110, 101]⟩, .int .i64 1, .slice (some ⟨w.heap.size + 1, 0, none⟩) 1 1, .int .i64 0, .int .i64 0, .string aPeril.name, .int .i64 1, .slice (some ⟨g, 0, none⟩) 4 4, .int .i64 0, .int .i64 0, .string ⟨#[110]⟩, .int .i64 2, .slice none 0 0, .int .i64 0, .int .i64 6, .string ⟨#[116]⟩, .int .i64 3, .slice none 0 0, .int .i64 0, .int .i64 0] 101)
  ·intro v hv
   simp only [List.mem_cons, List.not_mem_nil, or_false] at hv
   rcases hv with rfl | rfl | rfl | rfl
   ·refine isStrs_set (isStrs_block (t := 9) (l := [⟨#[111, 110, 108, 121]⟩]) ?_ rfl) (by simp) _ _
    simpa using HO.out
   ·exact isStrs_set HP.out (by omega) _ _
   ·exact isStrs_nil _
   exact isStrs_nil _
  exact (HX.out.setAbove (by simp) _).alloc _
 go_wp2_with fail
 refine bodyPost_ret (v := .agg #[.slice (some ⟨w.heap.size + 1, 0, none⟩) 1 1]) (by simp [results, Tryz.results26, go_sem]) rfl ?_
 refine schemaQ_mk HMM.out [⟨⟨⟨#[116]⟩, 3, [], 0, 0⟩, none, 0, 0⟩] (t := 101) (by omega) (by intro v hv b off he; simp only [List.mem_cons, List.not_mem_nil, or_false] at hv; (repeat' (rcases hv with rfl | hv)) <;> (try subst hv) <;> simp at he <;> omega) ?_ rfl rfl (by simp [schemas]) (by intro v hv; simp at hv; subst hv; exact isStrs_nil _) (((Ext.refl w).alloc _).alloc _)
 simpa [AttrV.cells] using alloc_new (w.alloc (.cells #[.slice (some ⟨w.heap.size + 1, 0, none⟩) 1 1] 24)) (.cells #[.string ⟨#[116]⟩, .int .i64 3, .slice none 0 0, .int .i64 0, .int .i64 0] 101)
end Go.Proofs.YtefjomofjejklaaGreatDoor
