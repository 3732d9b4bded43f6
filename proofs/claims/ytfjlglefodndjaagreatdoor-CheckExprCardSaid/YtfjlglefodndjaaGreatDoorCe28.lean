/-
  Texts of the claim, joined: Cxpd.
-/
import Derived.Test.YtfjlglefodndjaaGreatDoorCe27
namespace Go.Proofs.YtfjlglefodndjaaGreatDoor
open Go.RowKit

/-! The law CheckExpanded: the walk. -/
def GrGV (wr : World) (_ : List Nat) (_ : Nat → Value) (W : World) : Prop := Ext wr W
--BEGIN DEF X10
def cxR (la : Option Addr) (ln lc : Nat) (ma : Option Addr) (mn mc : Nat) (xv : ExV) (X1 X2 : Int) : Nat → Value → World → Prop
  | 0, u, _ => u = .slice la ln lc
  | 1, u, _ => u = .agg #[.int .i64 3, .string ⟨#[97]⟩, .slice none 0 0, .int .i64 0, .int .i64 0, .slice none 0 0]
  | 2, u, _ => u = .int .i64 X1
  | 3, u, _ => u = .slice la ln lc
  | 4, u, _ => u = .agg #[.int .i64 3, .string ⟨#[97]⟩, .slice none 0 0, .int .i64 0, .int .i64 0, .slice none 0 0]
  | 5, u, _ => u = .int .i64 X1
  | 6, u, _ => u = .bool true
  | 7, u, _ => u = .bool true
  | 8, u, _ => u = .slice ma mn mc
  | 9, u, _ => u = .agg #[.int .i64 xv.op, .string xv.name, .slice xv.aw xv.nw xv.cw, .int .i64 xv.lo, .int .i64 xv.hi, .slice xv.aa xv.na xv.ca]
  | 10, u, _ => u = .int .i64 X2
  | 11, u, _ => u = .slice ma mn mc
  | 12, u, _ => u = .agg #[.int .i64 xv.op, .string xv.name, .slice xv.aw xv.nw xv.cw, .int .i64 xv.lo, .int .i64 xv.hi, .slice xv.aa xv.na xv.ca]
  | 13, u, _ => u = .int .i64 X2
  | 14, u, _ => u = .bool true
  | 15, u, _ => u = .bool true
  | 16, u, _ => u = .bool true
  | 17, u, _ => u = .bool true
  | 18, u, _ => u = .bool true
  | _, u, _ => u = .bool true
--END DEF X10
def CxL (w3 : World) (m : List Cla) (mn : Nat) (v i : Value) (wr : World) : Prop := ∃ k : Nat, i = .int .i64 ((k : Nat) : Int) ∧ k ≤ mn ∧ wr.ownsRow w3.heap.size 9 1 v k (((m.take k).map (·.name)).flatMap strCells) ∧ Ext w3 wr
theorem bare_cond {e : Ex} (h : CondOk e) : bareE e = true := by
  rcases h with rfl | ⟨s, _, rfl⟩ | ⟨ns, _, _, rfl⟩
  · unfold exTrue bareE; simp [bareL]
  · unfold exNm bareE; simp [bareL]
  · unfold bareE
    rw [bareL_of _ fun x hx => by obtain ⟨s, _, rfl⟩ := List.mem_map.1 hx; unfold exNm bareE; simp [bareL]]
    simp
end Go.Proofs.YtfjlglefodndjaaGreatDoor
