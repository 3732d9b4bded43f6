/-
  Texts of the claim, joined: Args.
-/
import Derived.Test.YtaepiiediblleaaGreatDoorFo01
import Derived.Test.YtaepiiediblleaaGreatDoorFo05
import Derived.WalkKit
import Derived.Carry
import Derived.ChangeSlices
import Derived.SizedLaws
namespace Go.Proofs.YtaepiiediblleaaGreatDoor
open Go.ChangeShapes Go.WideShapes Go.ChangeAt Go.RowKit

theorem laidOut : laidOutB Tryz.prog = true := by kernel_rfl
/-- The types can be read again. -/
def rowedB (P : Program) (ts : List TypeId) : Bool := ts.all fun t => P.readableRec t && decide (t < P.types.size)
theorem args_again {H : Type} {enc : TypeId × Value → H} {P : Program} (hl : laidOutB P = true) {W W' : World} (hb : Ext W W') : ∀ {ts : List TypeId} {vs : List Value} {ds : List (DataW H)} {ps : List MemPlace}, rowedB P ts = true → DataW.TrodAll enc P W 0 (fun _ => true) true ts vs ds ps → (∀ x ∈ ps, x.block < W.heap.size) → DataW.TrodAll enc P W' 0 (fun b => decide (b < W.heap.size)) true ts vs ds ps
  | [], [], [], _, _, h, _ => h
  | t :: ts, v :: vs, d :: ds, ps, hr, h, hlt => by
    obtain ⟨p, q, h1, h2, e⟩ := h
    simp only [rowedB, List.all_cons, Bool.and_eq_true, decide_eq_true_eq] at hr
    subst e
    exact ⟨p, q, Below.trod hl hr.1.1 hr.1.2 h1 hb (fun x hx => hlt x (by simp [hx])), args_again hl hb (by simpa [rowedB] using hr.2) h2 (fun x hx => hlt x (by simp [hx])), rfl⟩
  | [], _ :: _, _, _, _, h, _ => by simp [DataW.TrodAll] at h
  | [], [], _ :: _, _, _, h, _ => by simp [DataW.TrodAll] at h
  | _ :: _, [], _, _, _, h, _ => by simp [DataW.TrodAll] at h
  | _ :: _, _ :: _, [], _, _, h, _ => by simp [DataW.TrodAll] at h
set_option maxRecDepth 100000 in
/-- A law answers true and has only made memory: its arguments read as before. -/
theorem law_post2 {H : Type} {enc : TypeId × Value → H} {f : Func} {s : ChangeSpec} {W W' : World} {args : Array Value} {ds : List (DataW H)} {before : List MemPlace}
    (hW : DataW.Whole enc Tryz.prog f.params.toList s.vars false W args.toList ds [] before) (hv : s.vars = []) (hrt : f.resultTypes = #[4]) (hfn : (s.fn H (ds ++ [])).results = [.lit (.bool true)]) (hfa : (s.fn H (ds ++ [])).args = ds) (hfv : (s.fn H (ds ++ [])).vars = []) (hrw : rowedB Tryz.prog f.params.toList = true)
    (hx : Ext W W') : s.post enc Tryz.prog f false true false false W args (.bool true) W' := by
  have hW2 := hW
  obtain ⟨p, q, hA, hV, rfl, hfz, hnd⟩ := hW2
  rw [hv] at hV
  obtain ⟨_, rfl⟩ := trodVars_none hV
  have hlt : ∀ x ∈ p ++ [], x.block < W.heap.size := fun x hx => by simpa using hW.lt x hx
  simp only [List.append_nil] at *
  have hres : ∀ (b : Nat) (sp : Nat → Bool) (hd : Bool), DataW.TrodAll enc Tryz.prog W' b sp hd f.resultTypes.toList ((Value.bool true).resultList f.resultTypes.size) (s.fn H (ds ++ [])).results [] := by
    intro b sp hd
    rw [hrt, List.append_nil, hfn]
    exact trodAll_cons_mk (shut_bool uB _) trodAll_mk0
  refine ⟨ds, [], p, [], p, [], hW, hres _ _ _, by rw [List.append_nil, hfa]; exact args_again laidOut hx hrw hA hlt, ?_, World.keptBut_mono (fun p hp => hp) (Below.frame hx _), fun h => by cases h⟩
  rw [hv, List.append_nil, hfv]
  rfl
theorem uIs : Tryz.prog.underlying 23 = some (.slice 3) := by kernel_rfl
theorem bInt : Tryz.prog.bytesOf 3 = 8 := by kernel_rfl
set_option maxRecDepth 100000 in
/-- An argument of type []int. -/
theorem ints_arg {H : Type} {enc : TypeId × Value → H} {W : World} {base : Nat} {v : Value} {d : DataW H} {p : List MemPlace} {ts : List TypeId} {ds : List (DataW H)} {j : Nat} (hval : Value.okWide Tryz.prog W .any base 23 v) (h : DataW.Trod enc Tryz.prog W 0 (fun _ => true) true 23 v d p)
    (hs : (DataW.weightsEach Tryz.prog ts ds).all (· ≤ reachBytes) = true) (ht : ts[j]? = some 23) (hd : ds[j]? = some d) : ∃ a n c, v = .slice a n c ∧ IntsAt W a n ∧ n ≤ 1000000000000000 := by
  obtain ⟨a, n, c, rfl⟩ := okWide_slice uIs hval
  refine ⟨a, n, c, rfl, ?_⟩
  obtain ⟨fuel, hf⟩ := h
  rcases open_ints uIs uI cI hf with ⟨hcs, hx⟩ | ⟨ad, len, cap, zs, hcs, _, hl, hm, hz, hx, hcell, hw⟩
  · simp [Value.cells] at hcs
    obtain ⟨rfl, rfl, rfl⟩ := hcs
    exact ⟨fun i hi => by omega, by omega⟩
  · simp [Value.cells] at hcs
    obtain ⟨rfl, rfl, rfl⟩ := hcs
    simp only [Prod.mk.injEq] at hx
    obtain ⟨rfl, rfl⟩ := hx
    simp only [if_true] at hz
    have hb := sized_slice hs ht hd uIs
    rw [bInt] at hb
    simp only [lits, List.length_map, List.length_take, List.length_drop] at hb
    have hr := reachBytes_lt
    refine ⟨fun i hi => ?_, by omega⟩
    obtain ⟨b, off, spot⟩ := ad
    have h0 := hcell 0 (by omega)
    have hsp : spot = none := by
      cases spot with
      | none => rfl
      | some x =>
        exfalso
        simp only [Addr.add, if_true, World.cell?] at h0
        split at h0 <;> simp at h0
    subst hsp
    have := hcell i (by omega)
    refine ⟨b, off, zs.getD i 0, rfl, ?_⟩
    rw [← this]
    congr 1
    unfold Addr.add
    split <;> simp_all
end Go.Proofs.YtaepiiediblleaaGreatDoor
