/-
  Texts of the claim, joined: Args, LaidP, Level1, Level3, Level6, Level7, Level9, Gram.
-/
import Derived.Test.YtpkljcgihobaiaaGreatDoorAc02
import Derived.Carry
import Derived.ChangeSlices
import Derived.SizedLaws
import Derived.Test.YtpkljcgihobaiaaGreatDoorRows
import Derived.Deep.AppendLies
import Derived.Deep.RegionLaw
import Derived.RegionTactic
namespace Go.Proofs.YtpkljcgihobaiaaGreatDoor
open Go.ChangeShapes Go.WideShapes Go.ChangeAt Go.RowKit
theorem laidOut : laidOutB Tryz.prog = true := by kernel_rfl
def rowedB (P : Program) (ts : List TypeId) : Bool := ts.all fun t => P.readableRec t && decide (t < P.types.size)
theorem args_again {H : Type} {enc : TypeId × Value -> H} {P : Program} (hl : laidOutB P = true) {W W' : World} (hb : Ext W W') : ∀ {ts : List TypeId} {vs : List Value} {ds : List (DataW H)} {ps : List MemPlace}, rowedB P ts = true -> DataW.TrodAll enc P W 0 (fun _ => true) true ts vs ds ps -> (∀ x ∈ ps, x.block < W.heap.size) -> DataW.TrodAll enc P W' 0 (fun b => decide (b < W.heap.size)) true ts vs ds ps
 | [], [], [], _, _, h, _ => h
 | t :: ts, v :: vs, d :: ds, ps, hr, h, hlt => by
  obtain ⟨p, q, h1, h2, e⟩ := h
  simp only [rowedB, List.all_cons, Bool.and_eq_true, decide_eq_true_eq] at hr
  subst e
  exact ⟨p, q, Below.trod hl hr.1.1 hr.1.2 h1 hb (fun x hx => hlt x (by simp [hx])), args_again hl hb (by simpa [rowedB] using hr.2) h2 (fun x hx => hlt x (by simp [hx])), rfl⟩
 | [], _ :: _, _, _, _, h, _ => by simp [DataW.TrodAll] at h
 | [], [], _ :: _, _, _, h, _ => by simp [DataW.TrodAll] at h
 | _ :: _, [], _, _, _, h, _ => by simp [DataW.TrodAll] at h
 | _ :: _, _ :: _, [], _, _, h, _ => by simp [DataW.TrodAll] at h
set_option maxRecDepth 100000 in
theorem law_post2 {H : Type} {enc : TypeId × Value -> H} {f : Func} {s : ChangeSpec} {W W' : World} {args : Array Value} {ds : List (DataW H)} {before : List MemPlace}
  (hW : DataW.Whole enc Tryz.prog f.params.toList s.vars false W args.toList ds [] before) (hv : s.vars = []) (hrt : f.resultTypes = #[4]) (hfn : (s.fn H (ds ++ [])).results = [.lit (.bool true)]) (hfa : (s.fn H (ds ++ [])).args = ds) (hfv : (s.fn H (ds ++ [])).vars = []) (hrw : rowedB Tryz.prog f.params.toList = true)
  (hx : Ext W W') : s.post enc Tryz.prog f false true false false W args (.bool true) W' := by
 have hW2 := hW
 obtain ⟨p, q, hA, hV, rfl, hfz, hnd⟩ := hW2
 rw [hv] at hV
 obtain ⟨_, rfl⟩ := trodVars_none hV
 have hlt : ∀ x ∈ p ++ [], x.block < W.heap.size := fun x hx => by simpa using hW.lt x hx
 simp only [List.append_nil] at *
 have hres : ∀ (b : Nat) (sp : Nat -> Bool) (hd : Bool), DataW.TrodAll enc Tryz.prog W' b sp hd f.resultTypes.toList ((Value.bool true).resultList f.resultTypes.size) (s.fn H (ds ++ [])).results [] := by
  intro b sp hd
  rw [hrt, List.append_nil, hfn]
  exact trodAll_cons_mk (shut_bool uB _) trodAll_mk0
 refine ⟨ds, [], p, [], p, [], hW, hres _ _ _, by rw [List.append_nil, hfa]; exact args_again laidOut hx hrw hA hlt, ?_, World.keptBut_mono (fun p hp => hp) (Below.frame hx _), fun h => by cases h⟩
 rw [hv, List.append_nil, hfv]
 rfl
theorem uIs : Tryz.prog.underlying 22 = some (.slice 3) := by kernel_rfl
theorem bInt : Tryz.prog.bytesOf 3 = 8 := by kernel_rfl
set_option maxRecDepth 100000 in
theorem ints_arg {H : Type} {enc : TypeId × Value -> H} {W : World} {base : Nat} {v : Value} {d : DataW H} {p : List MemPlace} {ts : List TypeId} {ds : List (DataW H)} {j : Nat} (hval : Value.okWide Tryz.prog W .any base 22 v) (h : DataW.Trod enc Tryz.prog W 0 (fun _ => true) true 22 v d p)
  (hs : (DataW.weightsEach Tryz.prog ts ds).all (· <= reachBytes) = true) (ht : ts[j]? = some 22) (hd : ds[j]? = some d) : ∃ a n c, v = .slice a n c /\ IntsAt W a n /\ n <= 1000000000000000 := by
 obtain ⟨a, n, c, rfl⟩ := okWide_slice uIs hval
 refine ⟨a, n, c, rfl, ?_⟩
 obtain ⟨fuel, hf⟩ := h
 rcases open_ints uIs uI cI hf with ⟨hcs, hx⟩ | ⟨ad, len, cap, zs, hcs, _, hl, hm, hz, hx, hcell, hw⟩
 ·simp [Value.cells] at hcs
  obtain ⟨rfl, rfl, rfl⟩ := hcs
  exact ⟨fun i hi => by omega, by omega⟩
 ·simp [Value.cells] at hcs
  obtain ⟨rfl, rfl, rfl⟩ := hcs
  simp only [Prod.mk.injEq] at hx
  obtain ⟨rfl, rfl⟩ := hx
  simp only [if_true] at hz
  have hb := sized_slice hs ht hd uIs
  rw [bInt] at hb
  simp only [lits, List.length_map, List.length_take, List.length_drop] at hb
  have hr := reachBytes_lt
  refine ⟨fun i hi => ?_, by omega⟩
  obtain ⟨b, off, spot⟩ := ad
  have h0 := hcell 0 (by omega)
  have hsp : spot = none := by
   cases spot with
   | none => rfl
   | some x =>
    exfalso
    simp only [Addr.add, if_true, World.cell?] at h0
    split at h0 <;> simp at h0
  subst hsp
  have := hcell i (by omega)
  refine ⟨b, off, zs.getD i 0, rfl, ?_⟩
  rw [<- this]
  congr 1
  unfold Addr.add
  split <;> simp_all
open Go.ChangeShapes Go.WideShapes Go.ChangeAt Go.WideMaps Go.WideElems Go.RowKit
set_option maxRecDepth 100000 in
theorem hasOps_of_laid {W : World} (h : laidMetH Tryz.prog Rows.proofDualRow.laid W) : HasOps W := by
 rw [MakeChecks.laidMetH_plain _ _ _ (by kernel_rfl)] at h
 obtain ⟨ps, ⟨g1, t1, cs1, f1, p1, q1, hg1, ht1, hv1, hd1, _, _⟩, _, _⟩ := h
 obtain rfl := Option.some.inj (gOps.symm.trans hg1)
 obtain rfl := Option.some.inj (tOps.symm.trans ht1)
 obtain ⟨xs, m, rfl, hx, hlen, hn, hel⟩ := DataW.trod_array uOps hd1
 simp only [Prod.mk.injEq] at hx
 have hx1 := hx.1
 intro k hk
 have hD : (xs.map (·.1))[k]? = some (.agg [.lit (.string (opWord k).data.toList), .lit (.bool (opNamed k)), .lit (.int .i64 (opLeast k)), .lit (.int .i64 (opMost k)), .lit (.int .i64 (opBinds k))]) := by
  unfold Rows.laid_treaty_syntax_operators at hx1
  injection hx1 with hx1
  rw [<- hx1]
  have hk' : k = 0 \/ k = 1 \/ k = 2 \/ k = 3 \/ k = 4 \/ k = 5 \/ k = 6 \/ k = 7 \/ k = 8 := by omega
  rcases hk' with rfl | rfl | rfl | rfl | rfl | rfl | rfl | rfl | rfl <;> rfl
 rw [List.getElem?_map] at hD
 have hek := hel k hk
 cases hy : xs[k]? with
 | none => rw [hy] at hD; cases hD
 | some y =>
  rw [hy] at hD hek
  simp only [Option.map_some, Option.some.injEq] at hD
  rw [cOp] at hek
  have hc := op_cells hek hD
  have key : ∀ j, j < 5 -> W.cell? ⟨0, k * 5 + j, none⟩ = ([.string (opWord k), .bool (opNamed k), .int .i64 (opLeast k), .int .i64 (opMost k), .int .i64 (opBinds k)] : List Value)[j]? := by
   intro j hj
   have e1 : (⟨(opWord k).data.toList.toArray⟩ : ByteArray) = opWord k := by simp
   rw [World.var?_cell hg1 hv1 (k * 5 + j), <- e1, <- hc, List.getElem?_take, if_pos hj, List.getElem?_drop]
   simp
  have k0 := key 0 (by omega)
  rw [Nat.add_zero] at k0
  exact ⟨k0, key 1 (by omega), key 2 (by omega), key 3 (by omega), key 4 (by omega)⟩
open Go.RowKit
structure Lvl where
 nots : Nat
 ands : List Part
 ors : List Part
open Go.RowKit
def itF : Nat -> Part -> Part
 | 0, p => p
 | n + 1, p => composedF 6 [itF n p]
open Go.RowKit
def lvl0 : Lvl := ⟨0, [], []⟩
open Go.RowKit
def prefixF (toks : List Tok) : Nat -> Nat -> List Lvl -> Lvl -> Nat × List Lvl × Lvl
 | 0, k, li, t => (k, li, t)
 | f + 1, k, li, t =>
  if acceptB toks k 1 wNot = true then prefixF toks f (k + 1) li ⟨t.nots + 1, t.ands, t.ors⟩ else
  if acceptB toks k 4 ⟨#[40]⟩ = true then prefixF toks f (k + 1) (li ++ [t]) lvl0 else (k, li, t)
open Go.RowKit
def withPart (t : Lvl) (p : Part) : Lvl := ⟨0, t.ands ++ [itF t.nots p], t.ors⟩
def wholeF (t : Lvl) : Part := joinedF 8 (t.ors ++ [joinedF 7 t.ands])
def runF (toks : List Tok) (tn : Nat) : Nat -> Bool -> Nat -> List Lvl -> Lvl -> Part × Int × Nat
 | 0, _, k, _, _ => (⟨ex0, 0, 0⟩, 5, k)
 | f + 1, true, k, li, t =>
  let a := prefixF toks (tn - k + 1) k li t
  let o := operandF toks a.1
  if o.2.1 ≠ 0 then (⟨ex0, 0, 0⟩, o.2.1, o.2.2) else runF toks tn f false o.2.2 a.2.1 (withPart a.2.2 o.1)
 | f + 1, false, k, li, t =>
  if acceptB toks k 1 wAnd = true then runF toks tn f true (k + 1) li t else
  if acceptB toks k 1 wOr = true then runF toks tn f true (k + 1) li ⟨t.nots, [], t.ors ++ [joinedF 7 t.ands]⟩ else
  match li.getLast? with
  | none => (wholeF t, 0, k)
  | some t' => if acceptB toks k 4 ⟨#[41]⟩ = true then runF toks tn f false (k + 1) li.dropLast (withPart t' (wholeF t)) else (⟨ex0, 0, 0⟩, 5, k)
mutual
def Ex.depth : Ex -> Nat
 | .mk _ _ _ _ _ args => depths args + 1
def depths : List Ex -> Nat
 | [] => 0
 | e :: r => max e.depth (depths r)
end
theorem Ex.depth_eq (e : Ex) : e.depth = depths e.args + 1 := by cases e; simp [Ex.depth, Ex.args]
theorem Ex.size_eq (e : Ex) : e.size = 1 + sizes e.args := by cases e; simp [Ex.size, Ex.args]
theorem depths_mem {l : List Ex} {e : Ex} (h : e ∈ l) : e.depth <= depths l := by
 induction l with
 | nil => simp at h
 | cons a r ih =>
  rcases List.mem_cons.1 h with rfl | h
  ·simp only [depths]; omega
  ·have := ih h; simp only [depths]; omega
def bd (tn : Nat) (m : Bool) (k : Nat) : Nat := if m then 2 * (tn - k) + 2 else 2 * (tn - k) + 1
def run (toks : List Tok) (m : Bool) (k : Nat) (li : List Lvl) (t : Lvl) : Part × Int × Nat := runF toks toks.length (bd toks.length m k) m k li t
end Go.Proofs.YtpkljcgihobaiaaGreatDoor
