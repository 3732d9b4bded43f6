/-
  Texts of the claim, joined: Base, Lex1, Lex2, Node1, Node2, LaidT, RowsOf, Valid.
-/
import Derived.Test.YtefjomofjejklaaGreatProg
import Derived.WalkKit
import Derived.Deep.QuietTactic
import Derived.BigQuiet
import Derived.Lib.Hide
import Derived.ProofKit
import Derived.LaidMore
import Derived.OpenShut
import Derived.Deep.Fields
import Derived.Stop.Joined
namespace Go.Proofs.YtefjomofjejklaaGreat
set_option maxRecDepth 100000
set_option maxHeartbeats 32000000
open Go.RowKit
abbrev OA := Option Addr
abbrev BA := ByteArray
abbrev ZB := List BA
abbrev ZI := List Int
abbrev ZN := List Nat
theorem hI {p : Prop} (h : p) : Hid p := h
theorem ltc4 {i : Nat} (h : i < 4) : i = 0 \/ i = 1 \/ i = 2 \/ i = 3 := by omega
theorem ltc5 {i : Nat} (h : i < 5) : i = 0 \/ i = 1 \/ i = 2 \/ i = 3 \/ i = 4 := by omega
theorem ltc6 {i : Nat} (h : i < 6) : i = 0 \/ i = 1 \/ i = 2 \/ i = 3 \/ i = 4 \/ i = 5 := by omega
theorem ltc7 {i : Nat} (h : i < 7) : i = 0 \/ i = 1 \/ i = 2 \/ i = 3 \/ i = 4 \/ i = 5 \/ i = 6 := by omega
theorem ltc8 {i : Nat} (h : i < 8) : i = 0 \/ i = 1 \/ i = 2 \/ i = 3 \/ i = 4 \/ i = 5 \/ i = 6 \/ i = 7 := by omega
theorem ltc9 {i : Nat} (h : i < 9) : i = 0 \/ i = 1 \/ i = 2 \/ i = 3 \/ i = 4 \/ i = 5 \/ i = 6 \/ i = 7 \/ i = 8 := by omega
theorem ltc10 {i : Nat} (h : i < 10) : i = 0 \/ i = 1 \/ i = 2 \/ i = 3 \/ i = 4 \/ i = 5 \/ i = 6 \/ i = 7 \/ i = 8 \/ i = 9 := by omega
theorem ltc11 {i : Nat} (h : i < 11) : i = 0 \/ i = 1 \/ i = 2 \/ i = 3 \/ i = 4 \/ i = 5 \/ i = 6 \/ i = 7 \/ i = 8 \/ i = 9 \/ i = 10 := by omega
theorem ltc12 {i : Nat} (h : i < 12) : i = 0 \/ i = 1 \/ i = 2 \/ i = 3 \/ i = 4 \/ i = 5 \/ i = 6 \/ i = 7 \/ i = 8 \/ i = 9 \/ i = 10 \/ i = 11 := by omega
theorem ltc13 {i : Nat} (h : i < 13) : i = 0 \/ i = 1 \/ i = 2 \/ i = 3 \/ i = 4 \/ i = 5 \/ i = 6 \/ i = 7 \/ i = 8 \/ i = 9 \/ i = 10 \/ i = 11 \/ i = 12 := by omega
theorem ltc14 {i : Nat} (h : i < 14) : i = 0 \/ i = 1 \/ i = 2 \/ i = 3 \/ i = 4 \/ i = 5 \/ i = 6 \/ i = 7 \/ i = 8 \/ i = 9 \/ i = 10 \/ i = 11 \/ i = 12 \/ i = 13 := by omega
theorem ltc15 {i : Nat} (h : i < 15) : i = 0 \/ i = 1 \/ i = 2 \/ i = 3 \/ i = 4 \/ i = 5 \/ i = 6 \/ i = 7 \/ i = 8 \/ i = 9 \/ i = 10 \/ i = 11 \/ i = 12 \/ i = 13 \/ i = 14 := by omega
theorem ltc18 {i : Nat} (h : i < 18) : i = 0 \/ i = 1 \/ i = 2 \/ i = 3 \/ i = 4 \/ i = 5 \/ i = 6 \/ i = 7 \/ i = 8 \/ i = 9 \/ i = 10 \/ i = 11 \/ i = 12 \/ i = 13 \/ i = 14 \/ i = 15 \/ i = 16 \/ i = 17 := by omega
theorem ltc19 {i : Nat} (h : i < 19) : i = 0 \/ i = 1 \/ i = 2 \/ i = 3 \/ i = 4 \/ i = 5 \/ i = 6 \/ i = 7 \/ i = 8 \/ i = 9 \/ i = 10 \/ i = 11 \/ i = 12 \/ i = 13 \/ i = 14 \/ i = 15 \/ i = 16 \/ i = 17 \/ i = 18 := by omega
theorem ltc23 {i : Nat} (h : i < 23) : i = 0 \/ i = 1 \/ i = 2 \/ i = 3 \/ i = 4 \/ i = 5 \/ i = 6 \/ i = 7 \/ i = 8 \/ i = 9 \/ i = 10 \/ i = 11 \/ i = 12 \/ i = 13 \/ i = 14 \/ i = 15 \/ i = 16 \/ i = 17 \/ i = 18 \/ i = 19 \/ i = 20 \/ i = 21 \/ i = 22 := by omega
theorem ltc25 {i : Nat} (h : i < 25) : i = 0 \/ i = 1 \/ i = 2 \/ i = 3 \/ i = 4 \/ i = 5 \/ i = 6 \/ i = 7 \/ i = 8 \/ i = 9 \/ i = 10 \/ i = 11 \/ i = 12 \/ i = 13 \/ i = 14 \/ i = 15 \/ i = 16 \/ i = 17 \/ i = 18 \/ i = 19 \/ i = 20 \/ i = 21 \/ i = 22 \/ i = 23 \/ i = 24 := by omega
theorem ltc28 {i : Nat} (h : i < 28) : i = 0 \/ i = 1 \/ i = 2 \/ i = 3 \/ i = 4 \/ i = 5 \/ i = 6 \/ i = 7 \/ i = 8 \/ i = 9 \/ i = 10 \/ i = 11 \/ i = 12 \/ i = 13 \/ i = 14 \/ i = 15 \/ i = 16 \/ i = 17 \/ i = 18 \/ i = 19 \/ i = 20 \/ i = 21 \/ i = 22 \/ i = 23 \/ i = 24 \/ i = 25 \/ i = 26 \/ i = 27 := by omega
def Ext (w w' : World) : Prop := Below w.heap.size w w'
theorem Ext.refl (w : World) : Ext w w := Below.refl _ _
theorem Ext.trans {a b c : World} (h : Ext a b) (k : Ext b c) : Ext a c := Below.trans h (Below.mono k h.size)
theorem Ext.alloc {a w : World} (h : Ext a w) (o : Obj) : Ext a (w.alloc o) := Below.alloc h h.size o
theorem Ext.drew {a w : World} (h : Ext a w) : Ext a w.drew := Below.drew h
theorem Ext.size {a w : World} (h : Ext a w) : a.heap.size <= w.heap.size := Below.size h
theorem Ext.cell {w w' : World} (h : Ext w w') {p : Addr} {v : Value} (hp : w.cell? p = some v) : w'.cell? p = some v := by
 have hb : p.block < w.heap.size := by
  unfold World.cell? at hp
  by_cases hlt : p.block < w.heap.size
  ·exact hlt
  rw [Array.getElem?_eq_none (by omega)] at hp; cases hp
 rw [Below.cell h hb]; exact hp
def Sub (s w : World) : Prop := ∀ p v, s.cell? p = some v -> w.cell? p = some v
theorem Sub.trans {a b c : World} (h : Sub a b) (k : Sub b c) : Sub a c := fun p v hp => k p v (h p v hp)
theorem Ext.sub {w w' : World} (h : Ext w w') : Sub w w' := fun _ _ hp => h.cell hp
theorem toList_inj {a b : BA} (h : a.toList = b.toList) : a = b := by
 rw [ByteArray.toList_eq, ByteArray.toList_eq] at h
 exact ByteArray.ext (Array.toList_inj.1 h)
theorem toList_beq (a b : BA) : (a.toList == b.toList) = decide (a = b) := by
 rw [Bool.eq_iff_iff]
 simp only [beq_iff_eq, decide_eq_true_eq]
 exact ⟨toList_inj, fun h => by rw [h]⟩
instance memDec (x : BA) (l : ZB) : Decidable (x ∈ l) := decidable_of_iff (l.any (fun y => decide (y = x)) = true) (by simp)
inductive Ex where
 | mk (op : Int) (name : BA) (words : ZB) (lo hi : Int) (args : List Ex)
def OkAddr (a : OA) (c : Nat) : Prop := (c = 0 /\ c = 0) \/ ∃ b off, a = some ⟨b, off, none⟩
def IsStrs (w : World) (l : ZB) (a : OA) (n c : Nat) : Prop :=
 n = l.length /\ n <= c /\ OkAddr a c /\ ∀ i (h : i < l.length), ∃ b off, a = some ⟨b, off, none⟩ /\ w.cell? ⟨b, off + i, none⟩ = some (.string l[i])
theorem IsStrs.mono {w w' : World} {l : ZB} {a : OA} {n c : Nat} (h : IsStrs w l a n c) (he : Sub w w') : IsStrs w' l a n c :=
 ⟨h.1, h.2.1, h.2.2.1, fun i hi => by obtain ⟨b, off, h1, h2⟩ := h.2.2.2 i hi; exact ⟨b, off, h1, he _ _ h2⟩⟩
theorem IsStrs.ext {w w' : World} {l : ZB} {a : OA} {n c : Nat} (h : IsStrs w l a n c) (he : Ext w w') : IsStrs w' l a n c := h.mono he.sub
mutual
def ExD (w : World) : Ex -> OA -> Nat -> Nat -> OA -> Nat -> Nat -> Prop
 | .mk _ _ words _ _ args, aw, nw, cw, aa, na, ca => IsStrs w words aw nw cw /\ na = args.length /\ na <= ca /\ OkAddr aa ca /\ ExsD w args aa
def ExsD (w : World) : List Ex -> OA -> Prop
 | [], _ => True
 | .mk op name words lo hi args :: r, a => ∃ b off, a = some ⟨b, off, none⟩ /\ (∃ aw nw cw aa na ca, w.cell? ⟨b, off, none⟩ = some (.int .i64 op) /\ w.cell? ⟨b, off + 1, none⟩ = some (.string name) /\ w.cell? ⟨b, off + 2, none⟩ = some (.slice aw nw cw) /\
   w.cell? ⟨b, off + 3, none⟩ = some (.int .i64 lo) /\ w.cell? ⟨b, off + 4, none⟩ = some (.int .i64 hi) /\ w.cell? ⟨b, off + 5, none⟩ = some (.slice aa na ca) /\
   IsStrs w words aw nw cw /\ na = args.length /\ na <= ca /\ OkAddr aa ca /\ ExsD w args aa) /\ ExsD w r (some ⟨b, off + 6, none⟩)
end
mutual
theorem ExD.mono {w w' : World} (he : Sub w w') : (e : Ex) -> (aw : OA) -> (nw cw : Nat) -> (aa : OA) -> (na ca : Nat) -> ExD w e aw nw cw aa na ca -> ExD w' e aw nw cw aa na ca
 | .mk op name words lo hi args, aw, nw, cw, aa, na, ca, h => by
  unfold ExD at h ⊢
  obtain ⟨h1, h2, h3, h4, h5⟩ := h
  exact ⟨h1.mono he, h2, h3, h4, ExsD.mono he args aa h5⟩
theorem ExsD.mono {w w' : World} (he : Sub w w') : (l : List Ex) -> (a : OA) -> ExsD w l a -> ExsD w' l a
 | [], _, _ => by unfold ExsD; trivial
 | .mk op name words lo hi args :: r, a, h => by
  unfold ExsD at h ⊢
  obtain ⟨b, off, rfl, ⟨aw, nw, cw, aa, na, ca, h0, h1, h2, h3, h4, h5, h6, h7, h8, h9, h10⟩, hr⟩ := h
  exact ⟨b, off, rfl, ⟨aw, nw, cw, aa, na, ca, he _ _ h0, he _ _ h1, he _ _ h2, he _ _ h3, he _ _ h4, he _ _ h5, h6.mono he, h7, h8, h9, ExsD.mono he args aa h10⟩, ExsD.mono he r _ hr⟩
end
theorem ExsD.ext {w w' : World} (he : Ext w w') (l : List Ex) (a : OA) (h : ExsD w l a) : ExsD w' l a := ExsD.mono he.sub l a h
def Ex.op : Ex -> Int | .mk op _ _ _ _ _ => op
def Ex.name : Ex -> BA | .mk _ name _ _ _ _ => name
def Ex.words : Ex -> ZB | .mk _ _ words _ _ _ => words
def Ex.lo : Ex -> Int | .mk _ _ _ lo _ _ => lo
def Ex.hi : Ex -> Int | .mk _ _ _ _ hi _ => hi
def Ex.args : Ex -> List Ex | .mk _ _ _ _ _ args => args
def exV (op : Int) (name : BA) (aw : OA) (nw cw : Nat) (lo hi : Int) (aa : OA) (na ca : Nat) : Value :=
 .agg #[.int .i64 op, .string name, .slice aw nw cw, .int .i64 lo, .int .i64 hi, .slice aa na ca]
def IsEx (w : World) (e : Ex) (v : Value) : Prop := ∃ aw nw cw aa na ca, v = exV e.op e.name aw nw cw e.lo e.hi aa na ca /\ ExD w e aw nw cw aa na ca
theorem IsEx.mono {w w' : World} {e : Ex} {v : Value} (h : IsEx w e v) (he : Sub w w') : IsEx w' e v := by
 obtain ⟨aw, nw, cw, aa, na, ca, h1, h2⟩ := h
 exact ⟨aw, nw, cw, aa, na, ca, h1, ExD.mono he _ _ _ _ _ _ _ h2⟩
theorem IsEx.ext {w w' : World} {e : Ex} {v : Value} (h : IsEx w e v) (he : Ext w w') : IsEx w' e v := h.mono he.sub
theorem IsEx.parts {w : World} {e : Ex} {v : Value} (h : IsEx w e v) : ∃ aw nw cw aa na ca, v = exV e.op e.name aw nw cw e.lo e.hi aa na ca /\ IsStrs w e.words aw nw cw /\
  na = e.args.length /\ na <= ca /\ OkAddr aa ca /\ ExsD w e.args aa := by
 obtain ⟨op, name, words, lo, hi, args⟩ := e
 obtain ⟨aw, nw, cw, aa, na, ca, h1, h2⟩ := h
 unfold ExD at h2
 exact ⟨aw, nw, cw, aa, na, ca, h1, h2⟩
theorem IsEx.mk {w : World} {op lo hi : Int} {name : BA} {words : ZB} {args : List Ex} {aw : OA} {nw cw : Nat} {aa : OA} {na ca : Nat}
  (h1 : IsStrs w words aw nw cw) (h2 : na = args.length) (h3 : na <= ca) (h4 : OkAddr aa ca) (h5 : ExsD w args aa) : IsEx w (.mk op name words lo hi args) (exV op name aw nw cw lo hi aa na ca) :=
 ⟨aw, nw, cw, aa, na, ca, rfl, by unfold ExD; exact ⟨h1, h2, h3, h4, h5⟩⟩
theorem ExsD.at {w : World} : (l : List Ex) -> (a : OA) -> ExsD w l a -> (k : Nat) -> (hk : k < l.length) ->
  ∃ b off, a = some ⟨b, off, none⟩ /\ ∃ aw nw cw aa na ca, w.cell? ⟨b, off + k * 6, none⟩ = some (.int .i64 l[k].op) /\ w.cell? ⟨b, off + k * 6 + 1, none⟩ = some (.string l[k].name) /\ w.cell? ⟨b, off + k * 6 + 2, none⟩ = some (.slice aw nw cw) /\
   w.cell? ⟨b, off + k * 6 + 3, none⟩ = some (.int .i64 l[k].lo) /\ w.cell? ⟨b, off + k * 6 + 4, none⟩ = some (.int .i64 l[k].hi) /\ w.cell? ⟨b, off + k * 6 + 5, none⟩ = some (.slice aa na ca) /\
   IsEx w l[k] (exV l[k].op l[k].name aw nw cw l[k].lo l[k].hi aa na ca)
 | [], _, _, k, hk => by simp at hk
 | .mk op name words lo hi args :: r, a, h, 0, _ => by
  unfold ExsD at h
  obtain ⟨b, off, rfl, ⟨aw, nw, cw, aa, na, ca, h0, h1, h2, h3, h4, h5, h6, h7, h8, h9, h10⟩, hr⟩ := h
  refine ⟨b, off, rfl, aw, nw, cw, aa, na, ca, ?_⟩
  simp only [Nat.zero_mul, Nat.add_zero]
  exact ⟨h0, h1, h2, h3, h4, h5, IsEx.mk h6 h7 h8 h9 h10⟩
 | .mk op name words lo hi args :: r, a, h, k + 1, hk => by
  unfold ExsD at h
  obtain ⟨b, off, rfl, _, hr⟩ := h
  obtain ⟨b', off', e1, rest⟩ := ExsD.at r _ hr k (by simpa using hk)
  simp at e1
  obtain ⟨rfl, rfl⟩ := e1
  have e1 : off + 6 + k * 6 = off + (k + 1) * 6 := by omega
  rw [e1] at rest
  exact ⟨b, off, rfl, by simpa using rest⟩
mutual
def Ex.size : Ex -> Nat
 | .mk _ _ _ _ _ args => 1 + sizes args
def sizes : List Ex -> Nat
 | [] => 0
 | e :: r => e.size + sizes r
end
theorem sizes_take_succ : (l : List Ex) -> (k : Nat) -> (hk : k < l.length) -> sizes (l.take (k + 1)) = sizes (l.take k) + l[k].size
 | [], k, hk => by simp at hk
 | e :: r, 0, _ => by simp [sizes]
 | e :: r, k + 1, hk => by
  have := sizes_take_succ r k (by simpa using hk)
  simp [sizes] at this ⊢
  omega
theorem sizes_take_le : (l : List Ex) -> (k : Nat) -> sizes (l.take k) <= sizes l
 | [], k => by simp [sizes]
 | e :: r, 0 => by simp [sizes]
 | e :: r, k + 1 => by
  have := sizes_take_le r k
  simp [sizes]; omega
theorem length_le_sizes : (l : List Ex) -> l.length <= sizes l
 | [] => by simp
 | .mk _ _ _ _ _ _ :: r => by
  have := length_le_sizes r
  simp [sizes, Ex.size]; omega
def letterB (c : Int) : Bool := decide (97 <= c /\ c <= 122)
def digitB (c : Int) : Bool := decide (48 <= c /\ c <= 57)
def inWordB (c : Int) : Bool := letterB c || digitB c || (c == 45)
def Gives (v : Value) (w : World) (e : Ending) (w' : World) : Prop := e = .returned v /\ w = w'
theorem gives_bool {a b : Bool} {w : World} (h : a = b) : Gives (.bool b) w (.returned (.bool a)) w := by subst h; exact ⟨rfl, rfl⟩
theorem gives_int {k : IntKind} {a b : Int} {w : World} (h : a = b) : Gives (.int k b) w (.returned (.int k a)) w := by subst h; exact ⟨rfl, rfl⟩
def GivesE (v : Value) (w : World) (e : Ending) (w' : World) : Prop := e = .returned v /\ Ext w w'
theorem givesE_bool {a b : Bool} {w w' : World} (h : a = b) (hx : Ext w w') : GivesE (.bool b) w (.returned (.bool a)) w' := by subst h; exact ⟨rfl, hx⟩
theorem givesE_int {k : IntKind} {a b : Int} {w w' : World} (h : a = b) (hx : Ext w w') : GivesE (.int k b) w (.returned (.int k a)) w' := by subst h; exact ⟨rfl, hx⟩
theorem letter_calls (c : Int) (w : World) : Calls Tryz.prog 131 #[.int .u8 c] w (Gives (.bool (letterB c)) w) := by
 go_enter Tryz.func131, Tryz.ntmps131
 go_wp2_with fail
 all_goals (go_ret; exact gives_bool (by simp [letterB]; omega))
theorem digit_calls (c : Int) (w : World) : Calls Tryz.prog 136 #[.int .u8 c] w (Gives (.bool (digitB c)) w) := by
 go_enter Tryz.func136, Tryz.ntmps136
 go_wp2_with fail
 all_goals (go_ret; exact gives_bool (by simp [digitB]; omega))
theorem inWord_calls (c : Int) (w : World) : Calls Tryz.prog 133 #[.int .u8 c] w (Gives (.bool (inWordB c)) w) := by
 go_enter Tryz.func133, Tryz.ntmps133
 go_wp2_with (first
  | (go_at_call 131; refine (letter_calls _ _).mono ?_; rintro e w' ⟨rfl, rfl⟩)
  | (go_at_call 136; refine (digit_calls _ _).mono ?_; rintro e w' ⟨rfl, rfl⟩))
 all_goals (go_ret; exact gives_bool (by simp_all [inWordB]))
def Kind (f : FuncId) (p : Int -> Bool) : Prop := ∀ (c : Int) (w : World), Calls Tryz.prog f #[.int .u8 c] w (Gives (.bool (p c)) w)
def spanF (p : Int -> Bool) (s : BA) : Nat -> Nat -> Nat
 | 0, i => i
 | n + 1, i => if h : i < s.size then (if p (s[i].toNat : Int) then spanF p s n (i + 1) else i) else i
theorem spanF_step {p : Int -> Bool} {s : BA} {k : Nat} (h : k < s.size) (hp : p (s[k].toNat : Int) = true) : spanF p s (s.size - k) k = spanF p s (s.size - (k + 1)) (k + 1) := by
 obtain ⟨n, hn⟩ : ∃ n, s.size - k = n + 1 := ⟨s.size - k - 1, by omega⟩
 rw [hn, show s.size - (k + 1) = n by omega, spanF, dif_pos h, if_pos hp]
theorem spanF_stop {p : Int -> Bool} {s : BA} {k : Nat} (h : k < s.size) (hp : p (s[k].toNat : Int) = false) : spanF p s (s.size - k) k = k := by
 obtain ⟨n, hn⟩ : ∃ n, s.size - k = n + 1 := ⟨s.size - k - 1, by omega⟩
 rw [hn, spanF, dif_pos h, if_neg (by simp [hp])]
theorem spanF_end {p : Int -> Bool} {s : BA} {k : Nat} (h : ¬ k < s.size) : spanF p s (s.size - k) k = k := by
 rw [show s.size - k = 0 by omega, spanF]
theorem span_calls (f : FuncId) (p : Int -> Bool) (hf : Kind f p) (s : BA) (i : Nat) (w : World) (hs : s.size <= 1000000000000000)
  (hc : ∀ (c : Int) (w : World), Sem.run Tryz.prog (callFunc f #[.int .u8 c]) w = .ok (.enter f #[.int .u8 c]) w) :
  Calls Tryz.prog 132 #[.string s, .int .i64 i, .func (.func f) #[] #[]] w (Gives (.int .i64 (spanF p s (s.size - i) i)) w) := by
 have HF := hI hf
 clear hf
 go_enter Tryz.func132, Tryz.ntmps132
 go_wp2_with fail
 go_loop [1] (fun t => ∃ k : Nat, t = .int .i64 k /\ spanF p s (s.size - k) k = spanF p s (s.size - i) i) (fun t => s.size - (intOf t).toNat)
 case atStart => exact ⟨i, rfl, rfl⟩
 case round =>
  obtain ⟨k, rfl, hk⟩ := hrel
  have HK := hI hk
  clear hk
  by_cases hlt : k < s.size
  ·cases hp : p (s[k].toNat : Int)
   ·have HP := hI hp
    clear hp
    go_wp2_with fail
    refine (HF.out _ _).mono ?_
    rintro e w' ⟨rfl, rfl⟩
    rw [HP.out]
    go_wp2_with fail
    go_ret
    exact gives_int (by rw [<- HK.out, spanF_stop hlt HP.out])
   have HP := hI hp
   clear hp
   go_wp2_with fail
   refine (HF.out _ _).mono ?_
   rintro e w' ⟨rfl, rfl⟩
   rw [HP.out]
   go_wp2_with fail
   go_round
   case rel => exact ⟨k + 1, by go_num, by rw [<- HK.out, spanF_step hlt HP.out]⟩
   case measure => simp [intOf]; omega
  go_wp2_with fail
  go_ret
  exact gives_int (by rw [<- HK.out, spanF_end hlt])
theorem enter_inWord (c : Int) (w : World) : Sem.run Tryz.prog (callFunc 133 #[.int .u8 c]) w = .ok (.enter 133 #[.int .u8 c]) w := by kernel_rfl
def reservedWords : List (List UInt8) := [[97, 110, 100], [97, 118, 101, 114, 97, 103, 101], [99, 111, 105, 110, 115, 117, 114, 97, 110, 99, 101], [99, 111, 110, 100, 105, 116, 105, 111, 110], [99, 111, 118, 101, 114], [100, 101, 100, 117, 99, 116, 105, 98, 108, 101], [100, 101, 102, 105, 110, 101], [101, 110, 100], [101, 110, 100, 111, 114, 115, 101], [101, 120, 99, 108, 117, 100, 101], [102, 97, 108, 115, 101], [102, 114, 97, 110, 99, 104, 105, 115, 101], [102, 114, 111, 109], [105, 110], [108, 105, 109, 105, 116], [110, 111, 116], [111, 114], [114, 101, 109, 111, 118, 101], [115, 117, 98, 108, 105, 109, 105, 116], [116, 111], [116, 114, 117, 101], [117, 110, 108, 101, 115, 115], [119, 104, 101, 110]]
def reservedB (s : BA) : Bool := reservedWords.any fun x => s.toList == x
theorem reserved_calls (s : BA) (w : World) : Calls Tryz.prog 121 #[.string s] w (Gives (.bool (reservedB s)) w) := by
 go_enter Tryz.func121, Tryz.ntmps121
 go_wp2_with fail
 all_goals (go_ret; exact gives_bool (by simp_all [reservedB, reservedWords]))
def byteAt (s : BA) (i : Nat) : Int := if h : i < s.size then (s[i].toNat : Int) else 0
theorem byteAt_lt {s : BA} {i : Nat} (h : i < s.size) : byteAt s i = (s[i].toNat : Int) := by simp [byteAt, h]
def wordB (s : BA) : Bool := s.size != 0 && decide (s.size <= 16) && letterB (byteAt s 0) && (byteAt s (s.size - 1) != 45) && spanF inWordB s s.size 0 == s.size
theorem word_calls (s : BA) (w : World) (hs : s.size <= 1000000000000000) : Calls Tryz.prog 120 #[.string s] w (Gives (.bool (wordB s)) w) := by
 by_cases h0 : s.size = 0
 ·have H := hI (show wordB s = false by simp [wordB, h0])
  have hz : ((s.size : Int) == 0) = true := by simp [h0]
  clear h0
  go_enter Tryz.func120, Tryz.ntmps120
  go_wp2_with fail
  go_ret
  exact gives_bool (by rw [H.out])
 have hz : ((s.size : Int) == 0) = false := by simp [h0]
 by_cases h1 : s.size <= 16
 ·have hb0 := byteAt_lt (show 0 < s.size by omega)
  have hb1 := byteAt_lt (show s.size - 1 < s.size by omega)
  cases h2 : letterB (s[0]'(by omega)).toNat
  ·have H := hI (show wordB s = false by simp [wordB, hb0, h2])
   have H2 := hI h2
   clear h2 hb0 hb1
   go_enter Tryz.func120, Tryz.ntmps120
   go_wp2_with fail
   refine (letter_calls _ _).mono ?_
   rintro e w' ⟨rfl, rfl⟩
   rw [H2.out]
   go_wp2_with fail
   go_ret
   exact gives_bool (by rw [H.out])
  have H2 := hI h2
  have HB0 := hI hb0
  have HB1 := hI hb1
  clear h2 hb0 hb1
  cases h3 : ((s[s.size - 1]'(by omega)).toNat : Int) == 45
  ·have H := hI (show wordB s = (spanF inWordB s s.size 0 == s.size) by simp [wordB, HB0.out, HB1.out, H2.out, h1, h0]; intro h; simp at h3; omega)
   have e1 : ((s.size : Int) - 1).toNat = s.size - 1 := by omega
   go_enter Tryz.func120, Tryz.ntmps120
   go_wp2_with fail
   refine (letter_calls _ _).mono ?_
   rintro e w' ⟨rfl, rfl⟩
   rw [H2.out]
   go_wp2_with fail
   refine (span_calls _ inWordB inWord_calls s 0 _ hs enter_inWord).mono ?_
   rintro e w' ⟨rfl, rfl⟩
   go_wp2_with fail
   go_ret
   refine gives_bool ?_
   rw [H.out]
   rw [Bool.eq_iff_iff, beq_iff_eq, beq_iff_eq]
   show ((spanF inWordB s (s.size - 0) 0 : Nat) : Int) = (s.size : Int) ↔ _
   simp only [Nat.sub_zero]
   omega
  have H := hI (show wordB s = false by simp [wordB, HB0.out, HB1.out, H2.out, h1, h0]; intro h; simp at h3; omega)
  have e1 : ((s.size : Int) - 1).toNat = s.size - 1 := by omega
  go_enter Tryz.func120, Tryz.ntmps120
  go_wp2_with fail
  refine (letter_calls _ _).mono ?_
  rintro e w' ⟨rfl, rfl⟩
  rw [H2.out]
  go_wp2_with fail
  go_ret
  exact gives_bool (by rw [H.out])
 have H := hI (show wordB s = false by simp [wordB]; omega)
 go_enter Tryz.func120, Tryz.ntmps120
 go_wp2_with fail
 go_ret
 exact gives_bool (by rw [H.out])
def nameB (s : BA) : Bool := wordB s && !reservedB s
theorem name_calls (s : BA) (w : World) (hs : s.size <= 1000000000000000) : Calls Tryz.prog 101 #[.string s] w (Gives (.bool (nameB s)) w) := by
 go_enter Tryz.func101, Tryz.ntmps101
 go_wp2_with (first
  | (go_at_call 120; refine (word_calls _ _ hs).mono ?_; rintro e w' ⟨rfl, rfl⟩)
  | (go_at_call 121; refine (reserved_calls _ _).mono ?_; rintro e w' ⟨rfl, rfl⟩))
 all_goals (go_ret; exact gives_bool (by simp_all [nameB]))
def numberB (n : Int) : Bool := decide (-1000000000 <= n /\ n <= 1000000000)
def indexF (l : ZB) (x : BA) : Int := match l.findIdx? (fun y => decide (y = x)) with | some i => i | none => -1
theorem indexF_of {l : ZB} {x : BA} {k : Nat} (hk : k < l.length) (h1 : ∀ j (hj : j < l.length), j < k -> l[j] ≠ x) (h2 : l[k] = x) : indexF l x = k := by
 unfold indexF
 have : l.findIdx? (fun y => decide (y = x)) = some k := by
  rw [List.findIdx?_eq_some_iff_getElem]
  exact ⟨hk, by simp [h2], fun j hj => by simpa using h1 j (by omega) hj⟩
 rw [this]
theorem indexF_none {l : ZB} {x : BA} (h1 : ∀ j (hj : j < l.length), l[j] ≠ x) : indexF l x = -1 := by
 unfold indexF
 have : l.findIdx? (fun y => decide (y = x)) = none := by
  rw [List.findIdx?_eq_none_iff]
  intro y hy
  obtain ⟨j, hj, rfl⟩ := List.getElem_of_mem hy
  simpa using h1 j hj
 rw [this]
theorem indexF_nonneg {l : ZB} {x : BA} : (0 <= indexF l x) ↔ x ∈ l := by
 unfold indexF
 cases h : l.findIdx? (fun y => decide (y = x)) with
 | none =>
  rw [List.findIdx?_eq_none_iff] at h
  constructor
  ·intro h'; simp at h'
  intro h'; have := h x h'; simp at this
 | some i =>
  rw [List.findIdx?_eq_some_iff_getElem] at h
  obtain ⟨hi, h2, _⟩ := h
  constructor
  ·intro _; simp at h2; rw [<- h2]; exact List.getElem_mem hi
  intro _; simp
theorem index_calls (l : ZB) (x : BA) (a : OA) (n c : Nat) (w : World) (hn : n <= 1000000000000000) (hl : IsStrs w l a n c) :
  Calls Tryz.prog 137 #[.slice a n c, .string x] w (Gives (.int .i64 (indexF l x)) w) := by
 have HL := hI hl
 clear hl
 go_enter Tryz.func137, Tryz.ntmps137
 go_wp2_with fail
 go_loop [8] (fun t => ∃ k : Nat, t = .int .i64 k /\ k <= n /\ ∀ j (hj : j < l.length), j < k -> l[j] ≠ x) (fun t => n - (intOf t).toNat)
 case atStart => exact ⟨0, rfl, by omega, fun _ _ h => by omega⟩
 case round =>
  obtain ⟨k, rfl, hk, hne⟩ := hrel
  have HE := hI hne
  clear hne
  by_cases hlt : k < n
  ·have hlt' : k < l.length := by have := HL.out.1; omega
   obtain ⟨b, off, rfl, hcell⟩ := HL.out.2.2.2 k hlt'
   cases hx : (x.toList == l[k].toList)
   ·go_wp2_with fail
    go_round
    case rel =>
     refine ⟨k + 1, by go_num, by omega, ?_⟩
     intro j hj hj2
     by_cases hjk : j < k
     ·exact HE.out j hj hjk
     obtain rfl : j = k := by omega
     intro h; subst h; simp at hx
    case measure => simp [intOf]; omega
   go_wp2_with fail
   go_ret
   exact gives_int (by rw [indexF_of hlt' HE.out (toList_inj (beq_iff_eq.1 hx)).symm])
  go_wp2_with fail
  go_ret
  exact gives_int (by rw [indexF_none (fun j hj => HE.out j hj (by have := HL.out.1; omega))])
theorem contains_calls (l : ZB) (x : BA) (a : OA) (n c : Nat) (w : World) (hn : n <= 1000000000000000) (hl : IsStrs w l a n c) :
  Calls Tryz.prog 134 #[.slice a n c, .string x] w (Gives (.bool (decide (x ∈ l))) w) := by
 have HL := hI hl
 clear hl
 go_enter Tryz.func134, Tryz.ntmps134
 go_wp2_with (go_at_call 137; refine (index_calls l _ _ _ _ _ hn HL.out).mono ?_; rintro e w' ⟨rfl, rfl⟩)
 go_ret
 exact gives_bool (by rw [Bool.eq_iff_iff]; simp [indexF_nonneg])
theorem IsStrs.take {w : World} {l : ZB} {a : OA} {n c : Nat} (h : IsStrs w l a n c) {k : Nat} (hk : k <= n) : IsStrs w (l.take k) a k c := by
 obtain ⟨h1, h2, h3, h4⟩ := h
 refine ⟨by simp; omega, by omega, h3, fun i hi => ?_⟩
 have : i < l.length := by simp at hi; omega
 obtain ⟨b, off, e1, e2⟩ := h4 i this
 exact ⟨b, off, e1, by simpa using e2⟩
def wordsB (l : ZB) : Bool := l.length != 0 && decide (l.length <= 12) && (l.all nameB) && decide l.Nodup
theorem block_lt {w : World} {p : Addr} {v : Value} (hp : w.cell? p = some v) : p.block < w.heap.size := by
 unfold World.cell? at hp
 by_cases hlt : p.block < w.heap.size
 ·exact hlt
 rw [Array.getElem?_eq_none (by omega)] at hp; cases hp
open Go.ChangeShapes Go.WideShapes Go.ChangeAt Go.WideMaps Go.WideElems Go.RowKit
theorem own : ownKnob Tryz.prog.godebug = none := by kernel_rfl
theorem cS : Tryz.prog.cellsOf 9 = 1 := by kernel_rfl
theorem cB : Tryz.prog.cellsOf 4 = 1 := by kernel_rfl
theorem cI : Tryz.prog.cellsOf 3 = 1 := by kernel_rfl
theorem uB : Tryz.prog.underlying 4 = some .bool := by kernel_rfl
theorem uI : Tryz.prog.underlying 3 = some (.int .i64) := by kernel_rfl
structure ElemT (t e : TypeId) (z : Value) (size bytes : Nat) : Prop where
 ht : Tryz.prog.underlying t = some (.slice e)
 info : (Tryz.prog.info? e).map (fun i => (i.zero, i.size, i.bytes)) = some (some z, size, bytes)
 hzs : z.cells.size = size
 hsz : 0 < size
def IsRows {α : Type} (w : World) (size : Nat) (f : α -> List Value) (l : List α) (a : OA) (n c : Nat) : Prop :=
 n = l.length /\ n <= c /\ OkAddr a c /\ ∀ i (h : i < l.length), ∃ b off, a = some ⟨b, off, none⟩ /\ ∀ j (hj : j < (f l[i]).length), w.cell? ⟨b, off + i * size + j, none⟩ = some (f l[i])[j]
theorem IsRows.mono {α : Type} {w w' : World} {size : Nat} {f : α -> List Value} {l : List α} {a : OA} {n c : Nat} (h : IsRows w size f l a n c) (he : Sub w w') : IsRows w' size f l a n c :=
 ⟨h.1, h.2.1, h.2.2.1, fun i hi => by obtain ⟨b, off, h1, h2⟩ := h.2.2.2 i hi; exact ⟨b, off, h1, fun j hj => he _ _ (h2 j hj)⟩⟩
theorem IsRows.ext {α : Type} {w w' : World} {size : Nat} {f : α -> List Value} {l : List α} {a : OA} {n c : Nat} (h : IsRows w size f l a n c) (he : Ext w w') : IsRows w' size f l a n c := h.mono he.sub
theorem flatMap_at {α : Type} (f : α -> List Value) (size : Nat) (hf : ∀ x, (f x).length = size) : (l : List α) -> (i : Nat) -> (hi : i < l.length) -> (j : Nat) -> (hj : j < (f l[i]).length) -> (l.flatMap f)[i * size + j]? = some (f l[i])[j]
 | [], i, hi, _, _ => by simp at hi
 | x :: r, 0, _, j, hj => by
  simp only [List.getElem_cons_zero] at hj
  simp only [List.flatMap_cons, Nat.zero_mul, Nat.zero_add, List.getElem_cons_zero]
  rw [List.getElem?_append_left hj, List.getElem?_eq_getElem hj]
 | x :: r, i + 1, hi, j, hj => by
  have := flatMap_at f size hf r i (by simpa using hi) j (by simpa using hj)
  simp only [List.flatMap_cons, List.getElem_cons_succ] at *
  rw [List.getElem?_append_right (by rw [hf, Nat.succ_mul]; omega), hf, show (i + 1) * size + j - size = i * size + j by rw [Nat.succ_mul]; omega]
  exact this
theorem length_flatMap_of {α : Type} (f : α -> List Value) (size : Nat) (hf : ∀ x, (f x).length = size) : (l : List α) -> (l.flatMap f).length = l.length * size
 | [] => by simp
 | x :: r => by simp only [List.flatMap_cons, List.length_append, hf, length_flatMap_of f size hf r, List.length_cons, Nat.succ_mul]; omega
theorem IsRows.of_owns {α : Type} {w : World} {base : Nat} {e : TypeId} {size : Nat} {f : α -> List Value} {l : List α} {v : Value} (hf : ∀ x, (f x).length = size) (h : w.ownsRow base e size v l.length (l.flatMap f)) :
  ∃ a c, v = .slice a l.length c /\ IsRows w size f l a l.length c := by
 rcases h.2 with ⟨rfl, h0⟩ | ⟨g, cap, cur, rfl, _, hg, hle, _, _, _⟩
 ·have : l = [] := List.eq_nil_of_length_eq_zero h0
  subst this
  exact ⟨none, 0, rfl, rfl, by simp, Or.inl ⟨rfl, rfl⟩, fun i hi => by simp at hi⟩
 refine ⟨some ⟨g, 0, none⟩, cap, rfl, rfl, hle, Or.inr ⟨g, 0, rfl⟩, fun i hi => ⟨g, 0, rfl, fun j hj => ?_⟩⟩
 rw [Nat.zero_add, h.cellAt _ ?_]
 ·exact flatMap_at f size hf l i hi j hj
 rw [hf] at hj
 calc i * size + j < i * size + size := by omega
  _ = (i + 1) * size := by rw [Nat.succ_mul]
  _ <= l.length * size := Nat.mul_le_mul_right _ hi
theorem owns_ext {w w' : World} {base : Nat} {e : TypeId} {size : Nat} {v : Value} {n : Nat} {xs : List Value} (h : w.ownsRow base e size v n xs) (he : Ext w w') : w'.ownsRow base e size v n xs :=
 h.kept (row := none) ⟨he.os, he.tape, he.output, he.size, fun k hk _ => he.block k hk⟩ (by cases hv : v.ownBlock <;> simp)
theorem Ext.grown {a w w' : World} {row : Option Nat} (h : Ext a w) (hg : w.grownBy w' row) (hr : ∀ k, row = some k -> a.heap.size <= k) : Ext a w' := Below.grown h hg h.size hr
theorem wpList_append_new {t e : TypeId} {z : Value} {size bytes : Nat} (E : ElemT t e z size bytes) {ops : Array Oper} {rest : List Oper} {o : Oper} {a : Act} {Q : Exit -> Act -> World -> Prop} {X : World} {arr : Array Value} {tt : TypeId}
  (hgd : o.guard = none) (s x : Operand) (ho : o.op = .call { callee := .builtin .append, args := #[s, x], argTypes := #[t, t] }) (base : Nat) (v : Value) (n : Nat) (xs : List Value) (hs : a.eval s = v) (hown : X.ownsRow base e size v n xs)
  (B m c : Nat) (hx : a.eval x = .slice (some ⟨B, 0, none⟩) m c) (hB : B = X.heap.size) (hl : arr.size = m * size) (h1 : ∀ u ∈ arr.toList, u.oneCell' = true) (hm : n + m <= maxLen) (hb : (n + m) * bytes <= 140737488355328) (hbase : base <= X.heap.size)
  (h : ∀ v' w', w'.ownsRow base e size v' (n + m) (xs ++ arr.toList) -> X.grownBy w' v.ownBlock -> wpList Tryz.prog ops Q rest (a.put o.dst v') w') : wpList Tryz.prog ops Q (o :: rest) a (X.alloc (.cells arr tt)) := by
 subst hB
 obtain ⟨i, hi, hz, hsz, hby⟩ := info_parts E.info
 refine wpList_append_own (X.alloc (.cells arr tt)) hgd s x t ho base e i z size bytes E.ht hi hz hsz hby E.hzs E.hsz v n xs hs (hown.alloc _) ⟨X.heap.size, 0, none⟩ m c arr.toList hx (by simpa using hl) ?_ h1 hm hb (by simp; omega) ?_
 ·intro j u hu
  have : (⟨X.heap.size, 0, none⟩ : Addr).add j = ⟨X.heap.size, j, none⟩ := by unfold Addr.add; split <;> simp_all
  rw [this, World.cell?_alloc_at _ _ _ _ rfl]
  simpa using hu
 intro v' w' h2 h3 _
 refine h v' w' h2 ⟨h3.os, h3.tape, h3.output, ?_, fun k hk hne => ?_⟩
 ·have := h3.size; simp at this; omega
 rw [h3.block k (by simp; omega) hne]
 exact Below.heap_alloc _ _ _ hk
theorem owns_base {w : World} {base : Nat} {e : TypeId} {size : Nat} {v : Value} {n : Nat} {xs : List Value} (h : w.ownsRow base e size v n xs) : ∀ k, v.ownBlock = some k -> base <= k := fun k hk => (h.lt k hk).1
theorem Ext.setAbove {a b : World} (h : Ext a b) {p : Addr} (hp : a.heap.size <= p.block) (v : Value) : Ext a (b.setCell p v) := Below.setCell h hp v
mutual
def Ex.fits : Ex -> Prop
 | .mk _ name words _ _ args => name.size <= 1000000000000000 /\ (∀ x ∈ words, x.size <= 1000000000000000) /\ fitsAll args
def fitsAll : List Ex -> Prop
 | [] => True
 | e :: r => e.fits /\ fitsAll r
end
theorem fitsAll_at : (l : List Ex) -> fitsAll l -> (k : Nat) -> (hk : k < l.length) -> l[k].fits
 | [], _, k, hk => by simp at hk
 | e :: r, h, 0, _ => by unfold fitsAll at h; exact h.1
 | e :: r, h, k + 1, hk => by unfold fitsAll at h; simpa using fitsAll_at r h.2 k (by simpa using hk)
theorem fits_parts {e : Ex} (h : e.fits) : e.name.size <= 1000000000000000 /\ (∀ x ∈ e.words, x.size <= 1000000000000000) /\ fitsAll e.args := by
 cases e; unfold Ex.fits at h; exact h
end Go.Proofs.YtefjomofjejklaaGreat
