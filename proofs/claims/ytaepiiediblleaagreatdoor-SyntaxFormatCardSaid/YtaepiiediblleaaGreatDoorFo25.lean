/-
  Texts of the claim, joined: Fine.
-/
import Derived.Test.YtaepiiediblleaaGreatDoorFo24
namespace Go.Proofs.YtaepiiediblleaaGreatDoor
open Go.RowKit

theorem IntsAt.ext {w w' : World} {a : Option Addr} {n : Nat} (h : IntsAt w a n) (hx : Ext w w') : IntsAt w' a n := fun i hi => by
  obtain ⟨b, off, z, e, hc⟩ := h i hi
  exact ⟨b, off, z, e, hx.cell hc⟩
/-- An expression was made. -/
theorem lexpr_fine (la : Option Addr) (ln lc : Nat) (w : World) (hi : IntsAt w la ln) (hl : ln ≤ 1000000000000000) :
    Calls Tryz.prog 11 #[.slice la ln lc] w (fun e w' => ∃ (x : Ex) (v : ExV), e = .returned v.val ∧ Fine 4 x ∧ IsEx w' x v.val ∧ Ext w w') := by
  refine (lexpr_calls la ln lc w hi hl [] (by simp)).mono ?_
  rintro e w' ⟨x, v, attrs, rfl, hat, hm, hix, hx⟩
  exact ⟨x, v, rfl, made_fine hat 4 x hm, hix.mono (mask_sub _ _), hx⟩
/-- The text of an expression that was made. -/
theorem format_fine {e : Ex} (hf : Fine 4 e) (ev : Value) (w : World) (he : IsEx w e ev) : Calls Tryz.prog 10 #[ev] w (JoinQ (fmtB e) 0 w) := by
  have b := bound4
  have h1 := hf.size; have h2 := hf.depth; have h3 := hf.len; have h4 := hf.wt
  have h5 := pcsB_joinPc_le (tokE e) true
  exact format_calls e ev w he hf.ok (by omega) (by omega) (by omega) (by unfold fmtB fmtPc; omega)
theorem fmtB_len {e : Ex} (hf : Fine 4 e) : (fmtB e).length ≤ 4445 := by
  have b := bound4
  have h4 := hf.wt
  have h5 := pcsB_joinPc_le (tokE e) true
  unfold fmtB fmtPc; omega
def ba (b : List UInt8) : ByteArray := ⟨b.toArray⟩
theorem ba_app (a b : List UInt8) : ba a ++ ba b = ba (a ++ b) := app_str a b
end Go.Proofs.YtaepiiediblleaaGreatDoor
