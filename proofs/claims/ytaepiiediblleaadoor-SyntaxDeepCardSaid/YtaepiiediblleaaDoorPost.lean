import Derived.Test.YtaepiiediblleaaDoorLaid
import Derived.WalkKit
namespace Go.Proofs.YtaepiiediblleaaDoor
open Go.ChangeShapes Go.WideShapes Go.ChangeAt Go.RowKit

/-- A law answers true; nothing that was there has changed: what its arguments read as stays as it was. -/
theorem law_post {H : Type} {enc : TypeId × Value → H} {f : Func} {s : ChangeSpec} {W W' : World} {args : Array Value} {ds : List (DataW H)} {before : List MemPlace}
    (hW : DataW.Whole enc Tryd.prog f.params.toList s.vars false W args.toList ds [] before) (hv : s.vars = []) (hrt : f.resultTypes = #[4]) (hfn : (s.fn H (ds ++ [])).results = [.lit (.bool true)]) (hfa : (s.fn H (ds ++ [])).args = ds) (hfv : (s.fn H (ds ++ [])).vars = [])
    (hx : Ext W W') (hread : DataW.TrodAll enc Tryd.prog W' 0 (fun b => decide (b < W.heap.size)) true f.params.toList args.toList ds before) :
    s.post enc Tryd.prog f false true false false W args (.bool true) W' := by
  have hres : ∀ (b : Nat) (sp : Nat → Bool) (hd : Bool), DataW.TrodAll enc Tryd.prog W' b sp hd f.resultTypes.toList ((Value.bool true).resultList f.resultTypes.size) (s.fn H (ds ++ [])).results [] := by
    intro b sp hd
    rw [hrt, hfn]
    exact trodAll_cons_mk (shut_bool uB _) trodAll_mk0
  refine ⟨ds, [], before, [], before, [], hW, hres _ _ _, by rw [hfa]; exact hread, ?_, World.keptBut_mono (fun p hp => hp) (Below.frame hx _), fun h => by cases h⟩
  rw [hv, hfv]
  rfl
end Go.Proofs.YtaepiiediblleaaDoor
