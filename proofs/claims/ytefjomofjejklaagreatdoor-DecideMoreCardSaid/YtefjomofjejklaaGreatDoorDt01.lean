/-
  Texts of the claim, joined: Base, Lex1, Lex2, Node1, Node2, LaidT, RowsOf, Valid.
-/
import Derived.Test.YtefjomofjejklaaGreatDoorProg
import Derived.WalkKit
import Derived.Deep.QuietTactic
import Derived.BigQuiet
import Derived.Lib.Hide
import Derived.ProofKit
import Derived.LaidMore
import Derived.OpenShut
import Derived.Deep.Fields
import Derived.Stop.Joined
namespace Go.Proofs.YtefjomofjejklaaGreatDoor
set_option maxRecDepth 100000
set_option maxHeartbeats 32000000
open Go.RowKit
abbrev OA := Option Addr
abbrev BA := ByteArray
abbrev ZB := List BA
abbrev ZI := List Int
abbrev ZN := List Nat
theorem hI {p : Prop} (h : p) : Hid p := h
theorem ltc4 {i : Nat} (h : i < 4) : i = 0 \/ i = 1 \/ i = 2 \/ i = 3 := by omega
theorem ltc5 {i : Nat} (h : i < 5) : i = 0 \/ i = 1 \/ i = 2 \/ i = 3 \/ i = 4 := by omega
theorem ltc6 {i : Nat} (h : i < 6) : i = 0 \/ i = 1 \/ i = 2 \/ i = 3 \/ i = 4 \/ i = 5 := by omega
theorem ltc7 {i : Nat} (h : i < 7) : i = 0 \/ i = 1 \/ i = 2 \/ i = 3 \/ i = 4 \/ i = 5 \/ i = 6 := by omega
theorem ltc8 {i : Nat} (h : i < 8) : i = 0 \/ i = 1 \/ i = 2 \/ i = 3 \/ i = 4 \/ i = 5 \/ i = 6 \/ i = 7 := by omega
theorem ltc9 {i : Nat} (h : i < 9) : i = 0 \/ i = 1 \/ i = 2 \/ i = 3 \/ i = 4 \/ i = 5 \/ i = 6 \/ i = 7 \/ i = 8 := by omega
theorem ltc10 {i : Nat} (h : i < 10) : i = 0 \/ i = 1 \/ i = 2 \/ i = 3 \/ i = 4 \/ i = 5 \/ i = 6 \/ i = 7 \/ i = 8 \/ i = 9 := by omega
theorem ltc11 {i : Nat} (h : i < 11) : i = 0 \/ i = 1 \/ i = 2 \/ i = 3 \/ i = 4 \/ i = 5 \/ i = 6 \/ i = 7 \/ i = 8 \/ i = 9 \/ i = 10 := by omega
theorem ltc12 {i : Nat} (h : i < 12) : i = 0 \/ i = 1 \/ i = 2 \/ i = 3 \/ i = 4 \/ i = 5 \/ i = 6 \/ i = 7 \/ i = 8 \/ i = 9 \/ i = 10 \/ i = 11 := by omega
theorem ltc13 {i : Nat} (h : i < 13) : i = 0 \/ i = 1 \/ i = 2 \/ i = 3 \/ i = 4 \/ i = 5 \/ i = 6 \/ i = 7 \/ i = 8 \/ i = 9 \/ i = 10 \/ i = 11 \/ i = 12 := by omega
theorem ltc14 {i : Nat} (h : i < 14) : i = 0 \/ i = 1 \/ i = 2 \/ i = 3 \/ i = 4 \/ i = 5 \/ i = 6 \/ i = 7 \/ i = 8 \/ i = 9 \/ i = 10 \/ i = 11 \/ i = 12 \/ i = 13 := by omega
theorem ltc15 {i : Nat} (h : i < 15) : i = 0 \/ i = 1 \/ i = 2 \/ i = 3 \/ i = 4 \/ i = 5 \/ i = 6 \/ i = 7 \/ i = 8 \/ i = 9 \/ i = 10 \/ i = 11 \/ i = 12 \/ i = 13 \/ i = 14 := by omega
theorem ltc18 {i : Nat} (h : i < 18) : i = 0 \/ i = 1 \/ i = 2 \/ i = 3 \/ i = 4 \/ i = 5 \/ i = 6 \/ i = 7 \/ i = 8 \/ i = 9 \/ i = 10 \/ i = 11 \/ i = 12 \/ i = 13 \/ i = 14 \/ i = 15 \/ i = 16 \/ i = 17 := by omega
theorem ltc19 {i : Nat} (h : i < 19) : i = 0 \/ i = 1 \/ i = 2 \/ i = 3 \/ i = 4 \/ i = 5 \/ i = 6 \/ i = 7 \/ i = 8 \/ i = 9 \/ i = 10 \/ i = 11 \/ i = 12 \/ i = 13 \/ i = 14 \/ i = 15 \/ i = 16 \/ i = 17 \/ i = 18 := by omega
theorem ltc23 {i : Nat} (h : i < 23) : i = 0 \/ i = 1 \/ i = 2 \/ i = 3 \/ i = 4 \/ i = 5 \/ i = 6 \/ i = 7 \/ i = 8 \/ i = 9 \/ i = 10 \/ i = 11 \/ i = 12 \/ i = 13 \/ i = 14 \/ i = 15 \/ i = 16 \/ i = 17 \/ i = 18 \/ i = 19 \/ i = 20 \/ i = 21 \/ i = 22 := by omega
theorem ltc25 {i : Nat} (h : i < 25) : i = 0 \/ i = 1 \/ i = 2 \/ i = 3 \/ i = 4 \/ i = 5 \/ i = 6 \/ i = 7 \/ i = 8 \/ i = 9 \/ i = 10 \/ i = 11 \/ i = 12 \/ i = 13 \/ i = 14 \/ i = 15 \/ i = 16 \/ i = 17 \/ i = 18 \/ i = 19 \/ i = 20 \/ i = 21 \/ i = 22 \/ i = 23 \/ i = 24 := by omega
theorem ltc28 {i : Nat} (h : i < 28) : i = 0 \/ i = 1 \/ i = 2 \/ i = 3 \/ i = 4 \/ i = 5 \/ i = 6 \/ i = 7 \/ i = 8 \/ i = 9 \/ i = 10 \/ i = 11 \/ i = 12 \/ i = 13 \/ i = 14 \/ i = 15 \/ i = 16 \/ i = 17 \/ i = 18 \/ i = 19 \/ i = 20 \/ i = 21 \/ i = 22 \/ i = 23 \/ i = 24 \/ i = 25 \/ i = 26 \/ i = 27 := by omega
def Ext (w w' : World) : Prop := Below w.heap.size w w'
theorem Ext.refl (w : World) : Ext w w := Below.refl _ _
theorem Ext.trans {a b c : World} (h : Ext a b) (k : Ext b c) : Ext a c := Below.trans h (Below.mono k h.size)
theorem Ext.alloc {a w : World} (h : Ext a w) (o : Obj) : Ext a (w.alloc o) := Below.alloc h h.size o
theorem Ext.drew {a w : World} (h : Ext a w) : Ext a w.drew := Below.drew h
theorem Ext.size {a w : World} (h : Ext a w) : a.heap.size <= w.heap.size := Below.size h
theorem Ext.cell {w w' : World} (h : Ext w w') {p : Addr} {v : Value} (hp : w.cell? p = some v) : w'.cell? p = some v := by
 have hb : p.block < w.heap.size := by
  unfold World.cell? at hp
  by_cases hlt : p.block < w.heap.size
  ·exact hlt
  rw [Array.getElem?_eq_none (by omega)] at hp; cases hp
 rw [Below.cell h hb]; exact hp
theorem Ext.frozen {w w' : World} (h : Ext w w') {p : Addr} {v : Value} (hp : w.cell? p = some v) : w'.frozen? p = w.frozen? p := by
 have hb : p.block < w.heap.size := by
  unfold World.cell? at hp
  by_cases hlt : p.block < w.heap.size
  ·exact hlt
  rw [Array.getElem?_eq_none (by omega)] at hp; cases hp
 rw [Below.frozen h hb]
def Sub (s w : World) : Prop := ∀ p v, s.cell? p = some v -> w.cell? p = some v
theorem Sub.trans {a b c : World} (h : Sub a b) (k : Sub b c) : Sub a c := fun p v hp => k p v (h p v hp)
theorem Ext.sub {w w' : World} (h : Ext w w') : Sub w w' := fun _ _ hp => h.cell hp
theorem toList_inj {a b : BA} (h : a.toList = b.toList) : a = b := by
 rw [ByteArray.toList_eq, ByteArray.toList_eq] at h
 exact ByteArray.ext (Array.toList_inj.1 h)
theorem toList_beq (a b : BA) : (a.toList == b.toList) = decide (a = b) := by
 rw [Bool.eq_iff_iff]
 simp only [beq_iff_eq, decide_eq_true_eq]
 exact ⟨toList_inj, fun h => by rw [h]⟩
instance memDec (x : BA) (l : ZB) : Decidable (x ∈ l) := decidable_of_iff (l.any (fun y => decide (y = x)) = true) (by simp)
inductive Ex where
 | mk (op : Int) (name : BA) (words : ZB) (lo hi : Int) (args : List Ex)
def OkAddr (a : OA) (c : Nat) : Prop := (c = 0 /\ c = 0) \/ ∃ b off, a = some ⟨b, off, none⟩
def IsStrs (w : World) (l : ZB) (a : OA) (n c : Nat) : Prop :=
 n = l.length /\ n <= c /\ OkAddr a c /\ ∀ i (h : i < l.length), ∃ b off, a = some ⟨b, off, none⟩ /\ w.cell? ⟨b, off + i, none⟩ = some (.string l[i])
theorem IsStrs.mono {w w' : World} {l : ZB} {a : OA} {n c : Nat} (h : IsStrs w l a n c) (he : Sub w w') : IsStrs w' l a n c :=
 ⟨h.1, h.2.1, h.2.2.1, fun i hi => by obtain ⟨b, off, h1, h2⟩ := h.2.2.2 i hi; exact ⟨b, off, h1, he _ _ h2⟩⟩
theorem IsStrs.ext {w w' : World} {l : ZB} {a : OA} {n c : Nat} (h : IsStrs w l a n c) (he : Ext w w') : IsStrs w' l a n c := h.mono he.sub
mutual
def ExD (w : World) : Ex -> OA -> Nat -> Nat -> OA -> Nat -> Nat -> Prop
 | .mk _ _ words _ _ args, aw, nw, cw, aa, na, ca => IsStrs w words aw nw cw /\ na = args.length /\ na <= ca /\ OkAddr aa ca /\ ExsD w args aa
def ExsD (w : World) : List Ex -> OA -> Prop
 | [], _ => True
 | .mk op name words lo hi args :: r, a => ∃ b off, a = some ⟨b, off, none⟩ /\ (∃ aw nw cw aa na ca, w.cell? ⟨b, off, none⟩ = some (.int .i64 op) /\ w.cell? ⟨b, off + 1, none⟩ = some (.string name) /\ w.cell? ⟨b, off + 2, none⟩ = some (.slice aw nw cw) /\
   w.cell? ⟨b, off + 3, none⟩ = some (.int .i64 lo) /\ w.cell? ⟨b, off + 4, none⟩ = some (.int .i64 hi) /\ w.cell? ⟨b, off + 5, none⟩ = some (.slice aa na ca) /\
   IsStrs w words aw nw cw /\ na = args.length /\ na <= ca /\ OkAddr aa ca /\ ExsD w args aa) /\ ExsD w r (some ⟨b, off + 6, none⟩)
end
mutual
theorem ExD.mono {w w' : World} (he : Sub w w') : (e : Ex) -> (aw : OA) -> (nw cw : Nat) -> (aa : OA) -> (na ca : Nat) -> ExD w e aw nw cw aa na ca -> ExD w' e aw nw cw aa na ca
 | .mk op name words lo hi args, aw, nw, cw, aa, na, ca, h => by
  unfold ExD at h ⊢
  obtain ⟨h1, h2, h3, h4, h5⟩ := h
  exact ⟨h1.mono he, h2, h3, h4, ExsD.mono he args aa h5⟩
theorem ExsD.mono {w w' : World} (he : Sub w w') : (l : List Ex) -> (a : OA) -> ExsD w l a -> ExsD w' l a
 | [], _, _ => by unfold ExsD; trivial
 | .mk op name words lo hi args :: r, a, h => by
  unfold ExsD at h ⊢
  obtain ⟨b, off, rfl, ⟨aw, nw, cw, aa, na, ca, h0, h1, h2, h3, h4, h5, h6, h7, h8, h9, h10⟩, hr⟩ := h
  exact ⟨b, off, rfl, ⟨aw, nw, cw, aa, na, ca, he _ _ h0, he _ _ h1, he _ _ h2, he _ _ h3, he _ _ h4, he _ _ h5, h6.mono he, h7, h8, h9, ExsD.mono he args aa h10⟩, ExsD.mono he r _ hr⟩
end
theorem ExsD.ext {w w' : World} (he : Ext w w') (l : List Ex) (a : OA) (h : ExsD w l a) : ExsD w' l a := ExsD.mono he.sub l a h
def Ex.op : Ex -> Int | .mk op _ _ _ _ _ => op
def Ex.name : Ex -> BA | .mk _ name _ _ _ _ => name
def Ex.words : Ex -> ZB | .mk _ _ words _ _ _ => words
def Ex.lo : Ex -> Int | .mk _ _ _ lo _ _ => lo
def Ex.hi : Ex -> Int | .mk _ _ _ _ hi _ => hi
def Ex.args : Ex -> List Ex | .mk _ _ _ _ _ args => args
def exV (op : Int) (name : BA) (aw : OA) (nw cw : Nat) (lo hi : Int) (aa : OA) (na ca : Nat) : Value :=
 .agg #[.int .i64 op, .string name, .slice aw nw cw, .int .i64 lo, .int .i64 hi, .slice aa na ca]
def IsEx (w : World) (e : Ex) (v : Value) : Prop := ∃ aw nw cw aa na ca, v = exV e.op e.name aw nw cw e.lo e.hi aa na ca /\ ExD w e aw nw cw aa na ca
theorem IsEx.mono {w w' : World} {e : Ex} {v : Value} (h : IsEx w e v) (he : Sub w w') : IsEx w' e v := by
 obtain ⟨aw, nw, cw, aa, na, ca, h1, h2⟩ := h
 exact ⟨aw, nw, cw, aa, na, ca, h1, ExD.mono he _ _ _ _ _ _ _ h2⟩
theorem IsEx.ext {w w' : World} {e : Ex} {v : Value} (h : IsEx w e v) (he : Ext w w') : IsEx w' e v := h.mono he.sub
theorem IsEx.parts {w : World} {e : Ex} {v : Value} (h : IsEx w e v) : ∃ aw nw cw aa na ca, v = exV e.op e.name aw nw cw e.lo e.hi aa na ca /\ IsStrs w e.words aw nw cw /\
  na = e.args.length /\ na <= ca /\ OkAddr aa ca /\ ExsD w e.args aa := by
 obtain ⟨op, name, words, lo, hi, args⟩ := e
 obtain ⟨aw, nw, cw, aa, na, ca, h1, h2⟩ := h
 unfold ExD at h2
 exact ⟨aw, nw, cw, aa, na, ca, h1, h2⟩
theorem IsEx.mk {w : World} {op lo hi : Int} {name : BA} {words : ZB} {args : List Ex} {aw : OA} {nw cw : Nat} {aa : OA} {na ca : Nat}
  (h1 : IsStrs w words aw nw cw) (h2 : na = args.length) (h3 : na <= ca) (h4 : OkAddr aa ca) (h5 : ExsD w args aa) : IsEx w (.mk op name words lo hi args) (exV op name aw nw cw lo hi aa na ca) :=
 ⟨aw, nw, cw, aa, na, ca, rfl, by unfold ExD; exact ⟨h1, h2, h3, h4, h5⟩⟩
theorem ExsD.at {w : World} : (l : List Ex) -> (a : OA) -> ExsD w l a -> (k : Nat) -> (hk : k < l.length) ->
  ∃ b off, a = some ⟨b, off, none⟩ /\ ∃ aw nw cw aa na ca, w.cell? ⟨b, off + k * 6, none⟩ = some (.int .i64 l[k].op) /\ w.cell? ⟨b, off + k * 6 + 1, none⟩ = some (.string l[k].name) /\ w.cell? ⟨b, off + k * 6 + 2, none⟩ = some (.slice aw nw cw) /\
   w.cell? ⟨b, off + k * 6 + 3, none⟩ = some (.int .i64 l[k].lo) /\ w.cell? ⟨b, off + k * 6 + 4, none⟩ = some (.int .i64 l[k].hi) /\ w.cell? ⟨b, off + k * 6 + 5, none⟩ = some (.slice aa na ca) /\
   IsEx w l[k] (exV l[k].op l[k].name aw nw cw l[k].lo l[k].hi aa na ca)
 | [], _, _, k, hk => by simp at hk
 | .mk op name words lo hi args :: r, a, h, 0, _ => by
  unfold ExsD at h
  obtain ⟨b, off, rfl, ⟨aw, nw, cw, aa, na, ca, h0, h1, h2, h3, h4, h5, h6, h7, h8, h9, h10⟩, hr⟩ := h
  refine ⟨b, off, rfl, aw, nw, cw, aa, na, ca, ?_⟩
  simp only [Nat.zero_mul, Nat.add_zero]
  exact ⟨h0, h1, h2, h3, h4, h5, IsEx.mk h6 h7 h8 h9 h10⟩
 | .mk op name words lo hi args :: r, a, h, k + 1, hk => by
  unfold ExsD at h
  obtain ⟨b, off, rfl, _, hr⟩ := h
  obtain ⟨b', off', e1, rest⟩ := ExsD.at r _ hr k (by simpa using hk)
  simp at e1
  obtain ⟨rfl, rfl⟩ := e1
  have e1 : off + 6 + k * 6 = off + (k + 1) * 6 := by omega
  rw [e1] at rest
  exact ⟨b, off, rfl, by simpa using rest⟩
mutual
def Ex.size : Ex -> Nat
 | .mk _ _ _ _ _ args => 1 + sizes args
def sizes : List Ex -> Nat
 | [] => 0
 | e :: r => e.size + sizes r
end
theorem sizes_take_succ : (l : List Ex) -> (k : Nat) -> (hk : k < l.length) -> sizes (l.take (k + 1)) = sizes (l.take k) + l[k].size
 | [], k, hk => by simp at hk
 | e :: r, 0, _ => by simp [sizes]
 | e :: r, k + 1, hk => by
  have := sizes_take_succ r k (by simpa using hk)
  simp [sizes] at this ⊢
  omega
theorem sizes_take_le : (l : List Ex) -> (k : Nat) -> sizes (l.take k) <= sizes l
 | [], k => by simp [sizes]
 | e :: r, 0 => by simp [sizes]
 | e :: r, k + 1 => by
  have := sizes_take_le r k
  simp [sizes]; omega
theorem length_le_sizes : (l : List Ex) -> l.length <= sizes l
 | [] => by simp
 | .mk _ _ _ _ _ _ :: r => by
  have := length_le_sizes r
  simp [sizes, Ex.size]; omega
def letterB (c : Int) : Bool := decide (97 <= c /\ c <= 122)
def digitB (c : Int) : Bool := decide (48 <= c /\ c <= 57)
def inWordB (c : Int) : Bool := letterB c || digitB c || (c == 45)
def Gives (v : Value) (w : World) (e : Ending) (w' : World) : Prop := e = .returned v /\ w = w'
theorem gives_bool {a b : Bool} {w : World} (h : a = b) : Gives (.bool b) w (.returned (.bool a)) w := by subst h; exact ⟨rfl, rfl⟩
theorem gives_int {k : IntKind} {a b : Int} {w : World} (h : a = b) : Gives (.int k b) w (.returned (.int k a)) w := by subst h; exact ⟨rfl, rfl⟩
def GivesE (v : Value) (w : World) (e : Ending) (w' : World) : Prop := e = .returned v /\ Ext w w'
theorem givesE_bool {a b : Bool} {w w' : World} (h : a = b) (hx : Ext w w') : GivesE (.bool b) w (.returned (.bool a)) w' := by subst h; exact ⟨rfl, hx⟩
theorem givesE_int {k : IntKind} {a b : Int} {w w' : World} (h : a = b) (hx : Ext w w') : GivesE (.int k b) w (.returned (.int k a)) w' := by subst h; exact ⟨rfl, hx⟩
theorem letter_calls (c : Int) (w : World) : Calls Tryz.prog 162 #[.int .u8 c] w (Gives (.bool (letterB c)) w) := by
 go_enter Tryz.func162, Tryz.ntmps162
 go_wp2_with fail
 all_goals (go_ret; exact gives_bool (by simp [letterB]; omega))
theorem digit_calls (c : Int) (w : World) : Calls Tryz.prog 179 #[.int .u8 c] w (Gives (.bool (digitB c)) w) := by
 go_enter Tryz.func179, Tryz.ntmps179
 go_wp2_with fail
 all_goals (go_ret; exact gives_bool (by simp [digitB]; omega))
theorem inWord_calls (c : Int) (w : World) : Calls Tryz.prog 164 #[.int .u8 c] w (Gives (.bool (inWordB c)) w) := by
 go_enter Tryz.func164, Tryz.ntmps164
 go_wp2_with (first
  | (go_at_call 162; refine (letter_calls _ _).mono ?_; rintro e w' ⟨rfl, rfl⟩)
  | (go_at_call 179; refine (digit_calls _ _).mono ?_; rintro e w' ⟨rfl, rfl⟩))
 all_goals (go_ret; exact gives_bool (by simp_all [inWordB]))
def Kind (f : FuncId) (p : Int -> Bool) : Prop := ∀ (c : Int) (w : World), Calls Tryz.prog f #[.int .u8 c] w (Gives (.bool (p c)) w)
def spanF (p : Int -> Bool) (s : BA) : Nat -> Nat -> Nat
 | 0, i => i
 | n + 1, i => if h : i < s.size then (if p (s[i].toNat : Int) then spanF p s n (i + 1) else i) else i
theorem spanF_step {p : Int -> Bool} {s : BA} {k : Nat} (h : k < s.size) (hp : p (s[k].toNat : Int) = true) : spanF p s (s.size - k) k = spanF p s (s.size - (k + 1)) (k + 1) := by
 obtain ⟨n, hn⟩ : ∃ n, s.size - k = n + 1 := ⟨s.size - k - 1, by omega⟩
 rw [hn, show s.size - (k + 1) = n by omega, spanF, dif_pos h, if_pos hp]
theorem spanF_stop {p : Int -> Bool} {s : BA} {k : Nat} (h : k < s.size) (hp : p (s[k].toNat : Int) = false) : spanF p s (s.size - k) k = k := by
 obtain ⟨n, hn⟩ : ∃ n, s.size - k = n + 1 := ⟨s.size - k - 1, by omega⟩
 rw [hn, spanF, dif_pos h, if_neg (by simp [hp])]
theorem spanF_end {p : Int -> Bool} {s : BA} {k : Nat} (h : ¬ k < s.size) : spanF p s (s.size - k) k = k := by
 rw [show s.size - k = 0 by omega, spanF]
theorem span_calls (f : FuncId) (p : Int -> Bool) (hf : Kind f p) (s : BA) (i : Nat) (w : World) (hs : s.size <= 1000000000000000)
  (hc : ∀ (c : Int) (w : World), Sem.run Tryz.prog (callFunc f #[.int .u8 c]) w = .ok (.enter f #[.int .u8 c]) w) :
  Calls Tryz.prog 163 #[.string s, .int .i64 i, .func (.func f) #[] #[]] w (Gives (.int .i64 (spanF p s (s.size - i) i)) w) := by
 have HF := hI hf
 clear hf
 go_enter Tryz.func163, Tryz.ntmps163
 go_wp2_with fail
 go_loop [1] (fun t => ∃ k : Nat, t = .int .i64 k /\ spanF p s (s.size - k) k = spanF p s (s.size - i) i) (fun t => s.size - (intOf t).toNat)
 case atStart => exact ⟨i, rfl, rfl⟩
 case round =>
  obtain ⟨k, rfl, hk⟩ := hrel
  have HK := hI hk
  clear hk
  by_cases hlt : k < s.size
  ·cases hp : p (s[k].toNat : Int)
   ·have HP := hI hp
    clear hp
    go_wp2_with fail
    refine (HF.out _ _).mono ?_
    rintro e w' ⟨rfl, rfl⟩
    rw [HP.out]
    go_wp2_with fail
    go_ret
    exact gives_int (by rw [<- HK.out, spanF_stop hlt HP.out])
   have HP := hI hp
   clear hp
   go_wp2_with fail
   refine (HF.out _ _).mono ?_
   rintro e w' ⟨rfl, rfl⟩
   rw [HP.out]
   go_wp2_with fail
   go_round
   case rel => exact ⟨k + 1, by go_num, by rw [<- HK.out, spanF_step hlt HP.out]⟩
   case measure => simp [intOf]; omega
  go_wp2_with fail
  go_ret
  exact gives_int (by rw [<- HK.out, spanF_end hlt])
theorem enter_inWord (c : Int) (w : World) : Sem.run Tryz.prog (callFunc 164 #[.int .u8 c]) w = .ok (.enter 164 #[.int .u8 c]) w := by kernel_rfl
def reservedWords : List (List UInt8) := [[97, 110, 100], [97, 118, 101, 114, 97, 103, 101], [99, 111, 105, 110, 115, 117, 114, 97, 110, 99, 101], [99, 111, 110, 100, 105, 116, 105, 111, 110], [99, 111, 118, 101, 114], [100, 101, 100, 117, 99, 116, 105, 98, 108, 101], [100, 101, 102, 105, 110, 101], [101, 110, 100], [101, 110, 100, 111, 114, 115, 101], [101, 120, 99, 108, 117, 100, 101], [102, 97, 108, 115, 101], [102, 114, 97, 110, 99, 104, 105, 115, 101], [102, 114, 111, 109], [105, 110], [108, 105, 109, 105, 116], [110, 111, 116], [111, 114], [114, 101, 109, 111, 118, 101], [115, 117, 98, 108, 105, 109, 105, 116], [116, 111], [116, 114, 117, 101], [117, 110, 108, 101, 115, 115], [119, 104, 101, 110]]
def reservedB (s : BA) : Bool := reservedWords.any fun x => s.toList == x
theorem reserved_calls (s : BA) (w : World) : Calls Tryz.prog 134 #[.string s] w (Gives (.bool (reservedB s)) w) := by
 go_enter Tryz.func134, Tryz.ntmps134
 go_wp2_with fail
 all_goals (go_ret; exact gives_bool (by simp_all [reservedB, reservedWords]))
def byteAt (s : BA) (i : Nat) : Int := if h : i < s.size then (s[i].toNat : Int) else 0
theorem byteAt_lt {s : BA} {i : Nat} (h : i < s.size) : byteAt s i = (s[i].toNat : Int) := by simp [byteAt, h]
def wordB (s : BA) : Bool := s.size != 0 && decide (s.size <= 16) && letterB (byteAt s 0) && (byteAt s (s.size - 1) != 45) && spanF inWordB s s.size 0 == s.size
theorem word_calls (s : BA) (w : World) (hs : s.size <= 1000000000000000) : Calls Tryz.prog 133 #[.string s] w (Gives (.bool (wordB s)) w) := by
 by_cases h0 : s.size = 0
 ·have H := hI (show wordB s = false by simp [wordB, h0])
  have hz : ((s.size : Int) == 0) = true := by simp [h0]
  clear h0
  go_enter Tryz.func133, Tryz.ntmps133
  go_wp2_with fail
  go_ret
  exact gives_bool (by rw [H.out])
 have hz : ((s.size : Int) == 0) = false := by simp [h0]
 by_cases h1 : s.size <= 16
 ·have hb0 := byteAt_lt (show 0 < s.size by omega)
  have hb1 := byteAt_lt (show s.size - 1 < s.size by omega)
  cases h2 : letterB (s[0]'(by omega)).toNat
  ·have H := hI (show wordB s = false by simp [wordB, hb0, h2])
   have H2 := hI h2
   clear h2 hb0 hb1
   go_enter Tryz.func133, Tryz.ntmps133
   go_wp2_with fail
   refine (letter_calls _ _).mono ?_
   rintro e w' ⟨rfl, rfl⟩
   rw [H2.out]
   go_wp2_with fail
   go_ret
   exact gives_bool (by rw [H.out])
  have H2 := hI h2
  have HB0 := hI hb0
  have HB1 := hI hb1
  clear h2 hb0 hb1
  cases h3 : ((s[s.size - 1]'(by omega)).toNat : Int) == 45
  ·have H := hI (show wordB s = (spanF inWordB s s.size 0 == s.size) by simp [wordB, HB0.out, HB1.out, H2.out, h1, h0]; intro h; simp at h3; omega)
   have e1 : ((s.size : Int) - 1).toNat = s.size - 1 := by omega
   go_enter Tryz.func133, Tryz.ntmps133
   go_wp2_with fail
   refine (letter_calls _ _).mono ?_
   rintro e w' ⟨rfl, rfl⟩
   rw [H2.out]
   go_wp2_with fail
   refine (span_calls _ inWordB inWord_calls s 0 _ hs enter_inWord).mono ?_
   rintro e w' ⟨rfl, rfl⟩
   go_wp2_with fail
   go_ret
   refine gives_bool ?_
   rw [H.out]
   rw [Bool.eq_iff_iff, beq_iff_eq, beq_iff_eq]
   show ((spanF inWordB s (s.size - 0) 0 : Nat) : Int) = (s.size : Int) ↔ _
   simp only [Nat.sub_zero]
   omega
  have H := hI (show wordB s = false by simp [wordB, HB0.out, HB1.out, H2.out, h1, h0]; intro h; simp at h3; omega)
  have e1 : ((s.size : Int) - 1).toNat = s.size - 1 := by omega
  go_enter Tryz.func133, Tryz.ntmps133
  go_wp2_with fail
  refine (letter_calls _ _).mono ?_
  rintro e w' ⟨rfl, rfl⟩
  rw [H2.out]
  go_wp2_with fail
  go_ret
  exact gives_bool (by rw [H.out])
 have H := hI (show wordB s = false by simp [wordB]; omega)
 go_enter Tryz.func133, Tryz.ntmps133
 go_wp2_with fail
 go_ret
 exact gives_bool (by rw [H.out])
def nameB (s : BA) : Bool := wordB s && !reservedB s
theorem name_calls (s : BA) (w : World) (hs : s.size <= 1000000000000000) : Calls Tryz.prog 103 #[.string s] w (Gives (.bool (nameB s)) w) := by
 go_enter Tryz.func103, Tryz.ntmps103
 go_wp2_with (first
  | (go_at_call 133; refine (word_calls _ _ hs).mono ?_; rintro e w' ⟨rfl, rfl⟩)
  | (go_at_call 134; refine (reserved_calls _ _).mono ?_; rintro e w' ⟨rfl, rfl⟩))
 all_goals (go_ret; exact gives_bool (by simp_all [nameB]))
def numberB (n : Int) : Bool := decide (-1000000000 <= n /\ n <= 1000000000)
theorem number_calls (n : Int) (w : World) : Calls Tryz.prog 189 #[.int .i64 n] w (Gives (.bool (numberB n)) w) := by
 go_enter Tryz.func189, Tryz.ntmps189
 go_wp2_with fail
 all_goals (go_ret; exact gives_bool (by simp [numberB]; omega))
def indexF (l : ZB) (x : BA) : Int := match l.findIdx? (fun y => decide (y = x)) with | some i => i | none => -1
theorem indexF_of {l : ZB} {x : BA} {k : Nat} (hk : k < l.length) (h1 : ∀ j (hj : j < l.length), j < k -> l[j] ≠ x) (h2 : l[k] = x) : indexF l x = k := by
 unfold indexF
 have : l.findIdx? (fun y => decide (y = x)) = some k := by
  rw [List.findIdx?_eq_some_iff_getElem]
  exact ⟨hk, by simp [h2], fun j hj => by simpa using h1 j (by omega) hj⟩
 rw [this]
theorem indexF_none {l : ZB} {x : BA} (h1 : ∀ j (hj : j < l.length), l[j] ≠ x) : indexF l x = -1 := by
 unfold indexF
 have : l.findIdx? (fun y => decide (y = x)) = none := by
  rw [List.findIdx?_eq_none_iff]
  intro y hy
  obtain ⟨j, hj, rfl⟩ := List.getElem_of_mem hy
  simpa using h1 j hj
 rw [this]
theorem indexF_nonneg {l : ZB} {x : BA} : (0 <= indexF l x) ↔ x ∈ l := by
 unfold indexF
 cases h : l.findIdx? (fun y => decide (y = x)) with
 | none =>
  rw [List.findIdx?_eq_none_iff] at h
  constructor
  ·intro h'; simp at h'
  intro h'; have := h x h'; simp at this
 | some i =>
  rw [List.findIdx?_eq_some_iff_getElem] at h
  obtain ⟨hi, h2, _⟩ := h
  constructor
  ·intro _; simp at h2; rw [<- h2]; exact List.getElem_mem hi
  intro _; simp
theorem index_calls (l : ZB) (x : BA) (a : OA) (n c : Nat) (w : World) (hn : n <= 1000000000000000) (hl : IsStrs w l a n c) :
  Calls Tryz.prog 180 #[.slice a n c, .string x] w (Gives (.int .i64 (indexF l x)) w) := by
 have HL := hI hl
 clear hl
 go_enter Tryz.func180, Tryz.ntmps180
 go_wp2_with fail
 go_loop [8] (fun t => ∃ k : Nat, t = .int .i64 k /\ k <= n /\ ∀ j (hj : j < l.length), j < k -> l[j] ≠ x) (fun t => n - (intOf t).toNat)
 case atStart => exact ⟨0, rfl, by omega, fun _ _ h => by omega⟩
 case round =>
  obtain ⟨k, rfl, hk, hne⟩ := hrel
  have HE := hI hne
  clear hne
  by_cases hlt : k < n
  ·have hlt' : k < l.length := by have := HL.out.1; omega
   obtain ⟨b, off, rfl, hcell⟩ := HL.out.2.2.2 k hlt'
   cases hx : (x.toList == l[k].toList)
   ·go_wp2_with fail
    go_round
    case rel =>
     refine ⟨k + 1, by go_num, by omega, ?_⟩
     intro j hj hj2
     by_cases hjk : j < k
     ·exact HE.out j hj hjk
     obtain rfl : j = k := by omega
     intro h; subst h; simp at hx
    case measure => simp [intOf]; omega
   go_wp2_with fail
   go_ret
   exact gives_int (by rw [indexF_of hlt' HE.out (toList_inj (beq_iff_eq.1 hx)).symm])
  go_wp2_with fail
  go_ret
  exact gives_int (by rw [indexF_none (fun j hj => HE.out j hj (by have := HL.out.1; omega))])
theorem contains_calls (l : ZB) (x : BA) (a : OA) (n c : Nat) (w : World) (hn : n <= 1000000000000000) (hl : IsStrs w l a n c) :
  Calls Tryz.prog 165 #[.slice a n c, .string x] w (Gives (.bool (decide (x ∈ l))) w) := by
 have HL := hI hl
 clear hl
 go_enter Tryz.func165, Tryz.ntmps165
 go_wp2_with (go_at_call 180; refine (index_calls l _ _ _ _ _ hn HL.out).mono ?_; rintro e w' ⟨rfl, rfl⟩)
 go_ret
 exact gives_bool (by rw [Bool.eq_iff_iff]; simp [indexF_nonneg])
theorem IsStrs.take {w : World} {l : ZB} {a : OA} {n c : Nat} (h : IsStrs w l a n c) {k : Nat} (hk : k <= n) : IsStrs w (l.take k) a k c := by
 obtain ⟨h1, h2, h3, h4⟩ := h
 refine ⟨by simp; omega, by omega, h3, fun i hi => ?_⟩
 have : i < l.length := by simp at hi; omega
 obtain ⟨b, off, e1, e2⟩ := h4 i this
 exact ⟨b, off, e1, by simpa using e2⟩
def wordsB (l : ZB) : Bool := l.length != 0 && decide (l.length <= 12) && (l.all nameB) && decide l.Nodup
def Looked (l : ZB) (k : Nat) : Prop := (∀ x ∈ l.take k, nameB x = true) /\ (l.take k).Nodup
theorem Looked.next {l : ZB} {k : Nat} (h : Looked l k) (hk : k < l.length) (h1 : nameB l[k] = true) (h2 : l[k] ∉ l.take k) : Looked l (k + 1) := by
 unfold Looked at *
 rw [List.take_succ_eq_append_getElem hk]
 refine ⟨fun x hx => ?_, ?_⟩
 ·rcases List.mem_append.1 hx with hx | hx
  ·exact h.1 x hx
  simp at hx; subst hx; exact h1
 rw [List.nodup_append]
 exact ⟨h.2, by simp, fun a ha b hb => by simp at hb; subst hb; intro e; subst e; exact h2 ha⟩
theorem wordsB_of {l : ZB} (h : Looked l l.length) (h0 : l.length ≠ 0) (h1 : l.length <= 12) : wordsB l = true := by
 unfold Looked at h
 simp at h
 simp [wordsB, h0, h1, h.2]
 exact h.1
theorem wordsB_no {l : ZB} {k : Nat} (hk : k < l.length) (h : nameB l[k] = false \/ l[k] ∈ l.take k) : wordsB l = false := by
 cases hb : wordsB l
 ·rfl
 simp [wordsB] at hb
 obtain ⟨⟨_, h3⟩, h4⟩ := hb
 rcases h with h | h
 ·rw [h3 _ (List.getElem_mem hk)] at h; cases h
 have : (l.take (k + 1)).Nodup := h4.sublist (List.take_sublist _ _)
 rw [List.take_succ_eq_append_getElem hk, List.nodup_append] at this
 exact absurd rfl (this.2.2 _ h _ (by simp))
theorem words_calls (l : ZB) (a : OA) (n c : Nat) (w : World) (hl : IsStrs w l a n c) (hsz : ∀ x ∈ l, x.size <= 1000000000000000) :
  Calls Tryz.prog 188 #[.slice a n c] w (Gives (.bool (wordsB l)) w) := by
 have HL := hI hl
 have HZ := hI hsz
 have hnc := hl.2.1
 have hnl := hI hl.1
 clear hl hsz
 by_cases h0 : n = 0
 ·have H := hI (show wordsB l = false by
   have hl0 : l.length = 0 := by have := hnl.out; omega
   simp [wordsB, hl0])
  have hz : ((n : Int) == 0) = true := by simp [h0]
  clear h0
  go_enter Tryz.func188, Tryz.ntmps188
  go_wp2_with fail
  go_ret
  exact gives_bool (by rw [H.out])
 have hz : ((n : Int) == 0) = false := by simp [h0]
 by_cases h1 : n <= 12
 ·have h12 : decide ((12 : Int) < n) = false := by simp; omega
  go_enter Tryz.func188, Tryz.ntmps188
  go_wp2_with fail
  go_loop [15] (fun t => ∃ k : Nat, t = .int .i64 k /\ k <= n /\ Looked l k) (fun t => n - (intOf t).toNat)
  case atStart => exact ⟨0, rfl, by omega, by simp [Looked]⟩
  case round =>
   obtain ⟨k, rfl, hk, hlo⟩ := hrel
   have HO := hI hlo
   clear hlo
   by_cases hlt : k < n
   ·have hlt' : k < l.length := by have := hnl.out; omega
    have hsk := HZ.out _ (List.getElem_mem hlt')
    have HT := hI (HL.out.take hk)
    obtain ⟨b, off, rfl, hcell⟩ := HL.out.2.2.2 k hlt'
    cases h3 : nameB l[k]
    ·have H := hI (wordsB_no hlt' (Or.inl h3))
     have H3 := hI h3
     clear h3
     go_wp2_with fail
     refine (name_calls _ _ hsk).mono ?_
     rintro e w' ⟨rfl, rfl⟩
     rw [H3.out]
     go_wp2_with fail
     go_ret
     exact gives_bool (by rw [H.out])
    have H3 := hI h3
    clear h3
    by_cases h4 : l[k] ∈ l.take k
    ·have H := hI (wordsB_no hlt' (Or.inr h4))
     have H4 := hI h4
     clear h4
     go_wp2_with fail
     refine (name_calls _ _ hsk).mono ?_
     rintro e w' ⟨rfl, rfl⟩
     rw [H3.out]
     go_wp2_with fail
     refine (contains_calls _ _ _ _ _ _ (by omega) HT.out).mono ?_
     rintro e w' ⟨rfl, rfl⟩
     rw [decide_eq_true H4.out]
     go_wp2_with fail
     go_ret
     exact gives_bool (by rw [H.out])
    have H4 := hI h4
    clear h4
    go_wp2_with fail
    refine (name_calls _ _ hsk).mono ?_
    rintro e w' ⟨rfl, rfl⟩
    rw [H3.out]
    go_wp2_with fail
    refine (contains_calls _ _ _ _ _ _ (by omega) HT.out).mono ?_
    rintro e w' ⟨rfl, rfl⟩
    rw [decide_eq_false H4.out]
    go_wp2_with fail
    go_round
    case rel => exact ⟨k + 1, by go_num, by omega, HO.out.next hlt' H3.out H4.out⟩
    case measure => simp [intOf]; omega
   go_wp2_with fail
   go_ret
   exact gives_bool (by
    have e1 := hnl.out
    obtain rfl : k = l.length := by omega
    rw [wordsB_of HO.out (by omega) (by omega)])
 have H := hI (show wordsB l = false by
  have hl0 : ¬ l.length <= 12 := by have := hnl.out; omega
  simp [wordsB, hl0])
 go_enter Tryz.func188, Tryz.ntmps188
 go_wp2_with fail
 go_ret
 exact gives_bool (by rw [H.out])
def opWord (k : Nat) : BA := ⟨(([[], [116, 114, 117, 101], [102, 97, 108, 115, 101], [], [105, 110], [102, 114, 111, 109], [110, 111, 116], [97, 110, 100], [111, 114]] : List (List UInt8)).getD k []).toArray⟩
def opNamed (k : Nat) : Bool := [false, false, false, true, true, true, false, false, false].getD k false
def opLeast (k : Nat) : Int := [0, 0, 0, 0, 0, 0, 1, 2, 2].getD k 0
def opMost (k : Nat) : Int := [0, 0, 0, 0, 0, 0, 1, 300, 300].getD k 0
def opBinds (k : Nat) : Int := [0, 0, 0, 0, 0, 0, 3, 2, 1].getD k 0
def HasOps (w : World) : Prop := ∀ k, k < 9 -> w.cell? ⟨0, k * 5, none⟩ = some (.string (opWord k)) /\ w.cell? ⟨0, k * 5 + 1, none⟩ = some (.bool (opNamed k)) /\
 w.cell? ⟨0, k * 5 + 2, none⟩ = some (.int .i64 (opLeast k)) /\ w.cell? ⟨0, k * 5 + 3, none⟩ = some (.int .i64 (opMost k)) /\ w.cell? ⟨0, k * 5 + 4, none⟩ = some (.int .i64 (opBinds k))
theorem block_lt {w : World} {p : Addr} {v : Value} (hp : w.cell? p = some v) : p.block < w.heap.size := by
 unfold World.cell? at hp
 by_cases hlt : p.block < w.heap.size
 ·exact hlt
 rw [Array.getElem?_eq_none (by omega)] at hp; cases hp
theorem HasOps.ext {w w' : World} (h : HasOps w) (he : Ext w w') : HasOps w' := fun k hk =>
 ⟨he.cell (h k hk).1, he.cell (h k hk).2.1, he.cell (h k hk).2.2.1, he.cell (h k hk).2.2.2.1, he.cell (h k hk).2.2.2.2⟩
def nodeB (e : Ex) : Bool :=
 decide (1 <= e.op /\ e.op <= 8) && (decide (opLeast e.op.toNat <= e.args.length) && decide ((e.args.length : Int) <= opMost e.op.toNat)) &&
 (if opNamed e.op.toNat then nameB e.name else e.name.toList.isEmpty) && (if e.op == 4 then wordsB e.words else e.words.isEmpty) &&
 (if e.op == 5 then numberB e.lo && numberB e.hi && decide (e.lo <= e.hi) else (e.lo == 0) && (e.hi == 0))
theorem nodeB_eq (op lo hi : Int) (name : BA) (words : ZB) (args : List Ex) (nw na : Nat) (h1 : nw = words.length) (h2 : na = args.length) : nodeB (.mk op name words lo hi args) =
 (decide (1 <= op /\ op <= 8) && (decide (opLeast op.toNat <= na) && decide ((na : Int) <= opMost op.toNat)) &&
 (if opNamed op.toNat then nameB name else name.toList.isEmpty) && (if op == 4 then wordsB words else decide (nw = 0)) &&
 (if op == 5 then numberB lo && numberB hi && decide (lo <= hi) else (lo == 0) && (hi == 0))) := by
 subst h1 h2
 have : words.isEmpty = decide (words.length = 0) := by cases words <;> simp
 simp only [nodeB, Ex.op, Ex.name, Ex.words, Ex.lo, Ex.hi, Ex.args, this]
 rfl
theorem nodeB_nat (k : Nat) (lo hi : Int) (name : BA) (words : ZB) (args : List Ex) (nw na : Nat) (h1 : nw = words.length) (h2 : na = args.length) (hk : 1 <= k /\ k < 9) : nodeB (.mk k name words lo hi args) =
 ((decide (opLeast k <= na) && decide ((na : Int) <= opMost k)) &&
 (if opNamed k then nameB name else name.toList.isEmpty) && (if (k : Int) == 4 then wordsB words else decide (nw = 0)) &&
 (if (k : Int) == 5 then numberB lo && numberB hi && decide (lo <= hi) else (lo == 0) && (hi == 0))) := by
 rw [nodeB_eq _ _ _ _ _ _ nw na h1 h2, Int.toNat_natCast, decide_eq_true (show 1 <= (k : Int) /\ (k : Int) <= 8 by omega), Bool.true_and]
theorem node_calls (e : Ex) (v : Value) (w : World) (he : IsEx w e v) (ho : HasOps w) (hs : e.name.size <= 1000000000000000) (hws : ∀ x ∈ e.words, x.size <= 1000000000000000) :
  Calls Tryz.prog 184 #[v] w (GivesE (.bool (nodeB e)) w) := by
 obtain ⟨aw, nw, cw, aa, na, ca, rfl, hw, hna, hca, ha, hx⟩ := he.parts
 clear he hx ha hca
 have HNW := hI hw.1
 have HNA := hI hna
 have HW := hI hw
 have HS := hI hws
 clear hw hws hna
 obtain ⟨op, name, words, lo, hi, args⟩ := e
 simp only [Ex.op, Ex.name, Ex.words, Ex.lo, Ex.hi, Ex.args] at *
 unfold exV
 by_cases h1 : 1 <= op
 ·by_cases h8 : op <= 8
  ·obtain ⟨k, rfl⟩ := Int.eq_ofNat_of_zero_le (show 0 <= op by omega)
   have hk : k < 9 := by omega
   obtain ⟨o0, o1, o2, o3, o4⟩ := ho k hk
   have hbk := block_lt o0
   simp only at hbk
   clear ho
   have HB := hI (nodeB_nat k lo hi name words args nw na HNW.out HNA.out (by omega))
   generalize nodeB (.mk k name words lo hi args) = B at *
   have hl1 : (0 : Int) <= opLeast k := by unfold opLeast; match k, hk with | 0, _ | 1, _ | 2, _ | 3, _ | 4, _ | 5, _ | 6, _ | 7, _ | 8, _ => decide
   generalize opLeast k = ol, opMost k = om, opNamed k = on, opWord k = ow, opBinds k = ob at *
   have t1 : decide ((k : Int) < 1) = false := by simp; omega
   have t2 : decide (8 < (k : Int)) = false := by simp; omega
   by_cases h2 : ol <= na
   ·by_cases h3 : (na : Int) <= om
    ·have t3 : decide ((na : Int) < ol) = false := by simp; omega
     have t4 : decide (om < (na : Int)) = false := by simp; omega
     go_enter Tryz.func184, Tryz.ntmps184
     go_wp2_with (first
      | (go_at_call 103; refine (name_calls _ _ hs).mono ?_; rintro e w' ⟨rfl, rfl⟩)
      | (go_at_call 188; refine (words_calls words _ _ _ _ (HW.out.ext (((Ext.refl w).alloc _).alloc _)) HS.out).mono ?_; rintro e w' ⟨rfl, rfl⟩)
      | (go_at_call 189; refine (number_calls _ _).mono ?_; rintro e w' ⟨rfl, rfl⟩))
     all_goals (go_ret; exact givesE_bool (by rw [HB.out]; simp_all; try omega) (((Ext.refl w).alloc _).alloc _))
    have H := hI (show B = false by rw [HB.out]; simp [h3])
    have t3 : decide ((na : Int) < ol) = false := by simp; omega
    have t4 : decide (om < (na : Int)) = true := by simp; omega
    go_enter Tryz.func184, Tryz.ntmps184
    go_wp2_with fail
    go_ret
    exact givesE_bool (by rw [H.out]) (((Ext.refl w).alloc _).alloc _)
   have H := hI (show B = false by rw [HB.out]; simp [h2])
   have t3 : decide ((na : Int) < ol) = true := by simp; omega
   go_enter Tryz.func184, Tryz.ntmps184
   go_wp2_with fail
   go_ret
   exact givesE_bool (by rw [H.out]) (((Ext.refl w).alloc _).alloc _)
  have H := hI (show nodeB (.mk op name words lo hi args) = false by rw [nodeB_eq op lo hi name words args nw na HNW.out HNA.out]; simp [h8])
  have t1 : decide (op < 1) = false := by simp; omega
  have t2 : decide (8 < op) = true := by simp; omega
  go_enter Tryz.func184, Tryz.ntmps184
  go_wp2_with fail
  go_ret
  exact givesE_bool (by rw [H.out]) ((Ext.refl w).alloc _)
 have H := hI (show nodeB (.mk op name words lo hi args) = false by rw [nodeB_eq op lo hi name words args nw na HNW.out HNA.out]; simp [h1])
 have t1 : decide (op < 1) = true := by simp; omega
 go_enter Tryz.func184, Tryz.ntmps184
 go_wp2_with fail
 go_ret
 exact givesE_bool (by rw [H.out]) ((Ext.refl w).alloc _)
open Go.ChangeShapes Go.WideShapes Go.ChangeAt Go.WideMaps Go.WideElems Go.RowKit
theorem own : ownKnob Tryz.prog.godebug = none := by kernel_rfl
theorem gOps : Tryz.prog.globalNamed "treaty/syntax.operators" = some 0 := by kernel_rfl
theorem tOps : (Tryz.prog.globals[0]?).map (·.type) = some 244 := by kernel_rfl
theorem uOps : Tryz.prog.underlying 244 = some (.array 9 243) := by kernel_rfl
theorem opFields_are : (Tryz.prog.underlying 243).bind (fun u => match u with | .struct fs => some (fs.toList.map (fun f => (f.type, f.offset))) | _ => none) = some [(9, 0), (4, 1), (3, 2), (3, 3), (3, 4)] := by kernel_rfl
theorem uOp : ∃ fs : Array Field, Tryz.prog.underlying 243 = some (.struct fs) /\ fs.toList.map (fun f => (f.type, f.offset)) = [(9, 0), (4, 1), (3, 2), (3, 3), (3, 4)] := by
 have h := opFields_are
 generalize Tryz.prog.underlying 243 = U at *
 match U, h with
 | some (.struct fs), h => exact ⟨fs, rfl, by simpa using h⟩
theorem cOp : Tryz.prog.cellsOf 243 = 5 := by kernel_rfl
theorem cS : Tryz.prog.cellsOf 9 = 1 := by kernel_rfl
theorem cB : Tryz.prog.cellsOf 4 = 1 := by kernel_rfl
theorem cI : Tryz.prog.cellsOf 3 = 1 := by kernel_rfl
theorem uS : Tryz.prog.underlying 9 = some .string := by kernel_rfl
theorem uB : Tryz.prog.underlying 4 = some .bool := by kernel_rfl
theorem uI : Tryz.prog.underlying 3 = some (.int .i64) := by kernel_rfl
theorem op_field {opFields : Array Field} (j : Nat) (t : TypeId) (o : Nat) (h : (opFields.toList.map (fun f => (f.type, f.offset)))[j]? = some (t, o)) : ∃ f, opFields[j]? = some f /\ f.type = t /\ f.offset = o := by
 rw [List.getElem?_map] at h
 cases hf : opFields.toList[j]? with
 | none => rw [hf] at h; cases h
 | some f =>
  rw [hf] at h
  simp only [Option.map_some, Option.some.injEq, Prod.mk.injEq] at h
  exact ⟨f, by simpa using hf, h.1, h.2⟩
theorem list5 {α : Type} (l : List α) (h : l.length = 5) : ∃ a b c d e, l = [a, b, c, d, e] := by
 rcases l with _ | ⟨a, _ | ⟨b, _ | ⟨c, _ | ⟨d, _ | ⟨e, _ | ⟨f, r⟩⟩⟩⟩⟩⟩ <;> simp at h
 exact ⟨a, b, c, d, e, rfl⟩
theorem op_cells {H : Type} {enc : TypeId × Value -> H} {W : World} {base n : Nat} {sp : Nat -> Bool} {held : Bool} {cs : List Value} {y : DataW H × List MemPlace} (h : DataW.trod enc Tryz.prog W base sp held n 243 cs = some y) {s : List UInt8} {b : Bool} {l m k : Int}
  (hy : y.1 = .agg [.lit (.string s), .lit (.bool b), .lit (.int .i64 l), .lit (.int .i64 m), .lit (.int .i64 k)]) : cs = [.string ⟨s.toArray⟩, .bool b, .int .i64 l, .int .i64 m, .int .i64 k] := by
 obtain ⟨opFields, uO, are⟩ := uOp
 obtain ⟨xs, r, rfl, rfl, hlen, hxl, hf⟩ := DataW.trod_struct uO h
 have e5 : opFields.size = 5 := by have := congrArg List.length are; simpa using this
 rw [e5] at hxl
 rw [cOp] at hlen
 obtain ⟨c0, c1, c2, c3, c4, rfl⟩ := list5 cs hlen
 obtain ⟨x0, x1, x2, x3, x4, rfl⟩ := list5 xs hxl
 skip
 obtain ⟨f0, g0, t0, o0⟩ := op_field 0 _ _ (by rw [are]; rfl)
 obtain ⟨f1, g1, t1, o1⟩ := op_field 1 _ _ (by rw [are]; rfl)
 obtain ⟨f2, g2, t2, o2⟩ := op_field 2 _ _ (by rw [are]; rfl)
 obtain ⟨f3, g3, t3, o3⟩ := op_field 3 _ _ (by rw [are]; rfl)
 obtain ⟨f4, g4, t4, o4⟩ := op_field 4 _ _ (by rw [are]; rfl)
 have r0 := hf 0 f0 g0
 have r1 := hf 1 f1 g1
 have r2 := hf 2 f2 g2
 have r3 := hf 3 f3 g3
 have r4 := hf 4 f4 g4
 rw [t0, o0, cS] at r0
 rw [t1, o1, cB] at r1
 rw [t2, o2, cI] at r2
 rw [t3, o3, cI] at r3
 rw [t4, o4, cI] at r4
 obtain ⟨s', a0, b0, _⟩ := DataW.trod_string uS r0
 obtain ⟨b', a1, b1⟩ := DataW.trod_bool uB r1
 obtain ⟨l', a2, b2, _⟩ := DataW.trod_int uI r2
 obtain ⟨m', a3, b3, _⟩ := DataW.trod_int uI r3
 obtain ⟨k', a4, b4, _⟩ := DataW.trod_int uI r4
 simp at a0 a1 a2 a3 a4
 subst a0 a1 a2 a3 a4 b0 b1 b2 b3 b4
 simp at hy
 obtain ⟨h0, h1, h2, h3, h4⟩ := hy
 subst h0 h1 h2 h3 h4
 simp
structure ElemT (t e : TypeId) (z : Value) (size bytes : Nat) : Prop where
 ht : Tryz.prog.underlying t = some (.slice e)
 info : (Tryz.prog.info? e).map (fun i => (i.zero, i.size, i.bytes)) = some (some z, size, bytes)
 hzs : z.cells.size = size
 hsz : 0 < size
def IsRows {α : Type} (w : World) (size : Nat) (f : α -> List Value) (l : List α) (a : OA) (n c : Nat) : Prop :=
 n = l.length /\ n <= c /\ OkAddr a c /\ ∀ i (h : i < l.length), ∃ b off, a = some ⟨b, off, none⟩ /\ ∀ j (hj : j < (f l[i]).length), w.cell? ⟨b, off + i * size + j, none⟩ = some (f l[i])[j]
theorem IsRows.mono {α : Type} {w w' : World} {size : Nat} {f : α -> List Value} {l : List α} {a : OA} {n c : Nat} (h : IsRows w size f l a n c) (he : Sub w w') : IsRows w' size f l a n c :=
 ⟨h.1, h.2.1, h.2.2.1, fun i hi => by obtain ⟨b, off, h1, h2⟩ := h.2.2.2 i hi; exact ⟨b, off, h1, fun j hj => he _ _ (h2 j hj)⟩⟩
theorem flatMap_at {α : Type} (f : α -> List Value) (size : Nat) (hf : ∀ x, (f x).length = size) : (l : List α) -> (i : Nat) -> (hi : i < l.length) -> (j : Nat) -> (hj : j < (f l[i]).length) -> (l.flatMap f)[i * size + j]? = some (f l[i])[j]
 | [], i, hi, _, _ => by simp at hi
 | x :: r, 0, _, j, hj => by
  simp only [List.getElem_cons_zero] at hj
  simp only [List.flatMap_cons, Nat.zero_mul, Nat.zero_add, List.getElem_cons_zero]
  rw [List.getElem?_append_left hj, List.getElem?_eq_getElem hj]
 | x :: r, i + 1, hi, j, hj => by
  have := flatMap_at f size hf r i (by simpa using hi) j (by simpa using hj)
  simp only [List.flatMap_cons, List.getElem_cons_succ] at *
  rw [List.getElem?_append_right (by rw [hf, Nat.succ_mul]; omega), hf, show (i + 1) * size + j - size = i * size + j by rw [Nat.succ_mul]; omega]
  exact this
theorem length_flatMap_of {α : Type} (f : α -> List Value) (size : Nat) (hf : ∀ x, (f x).length = size) : (l : List α) -> (l.flatMap f).length = l.length * size
 | [] => by simp
 | x :: r => by simp only [List.flatMap_cons, List.length_append, hf, length_flatMap_of f size hf r, List.length_cons, Nat.succ_mul]; omega
theorem IsRows.of_owns {α : Type} {w : World} {base : Nat} {e : TypeId} {size : Nat} {f : α -> List Value} {l : List α} {v : Value} (hf : ∀ x, (f x).length = size) (h : w.ownsRow base e size v l.length (l.flatMap f)) :
  ∃ a c, v = .slice a l.length c /\ IsRows w size f l a l.length c := by
 rcases h.2 with ⟨rfl, h0⟩ | ⟨g, cap, cur, rfl, _, hg, hle, _, _, _⟩
 ·have : l = [] := List.eq_nil_of_length_eq_zero h0
  subst this
  exact ⟨none, 0, rfl, rfl, by simp, Or.inl ⟨rfl, rfl⟩, fun i hi => by simp at hi⟩
 refine ⟨some ⟨g, 0, none⟩, cap, rfl, rfl, hle, Or.inr ⟨g, 0, rfl⟩, fun i hi => ⟨g, 0, rfl, fun j hj => ?_⟩⟩
 rw [Nat.zero_add, h.cellAt _ ?_]
 ·exact flatMap_at f size hf l i hi j hj
 rw [hf] at hj
 calc i * size + j < i * size + size := by omega
  _ = (i + 1) * size := by rw [Nat.succ_mul]
  _ <= l.length * size := Nat.mul_le_mul_right _ hi
theorem owns_ext {w w' : World} {base : Nat} {e : TypeId} {size : Nat} {v : Value} {n : Nat} {xs : List Value} (h : w.ownsRow base e size v n xs) (he : Ext w w') : w'.ownsRow base e size v n xs :=
 h.kept (row := none) ⟨he.os, he.tape, he.output, he.size, fun k hk _ => he.block k hk⟩ (by cases hv : v.ownBlock <;> simp)
theorem Ext.grown {a w w' : World} {row : Option Nat} (h : Ext a w) (hg : w.grownBy w' row) (hr : ∀ k, row = some k -> a.heap.size <= k) : Ext a w' := Below.grown h hg h.size hr
theorem wpList_append_new {t e : TypeId} {z : Value} {size bytes : Nat} (E : ElemT t e z size bytes) {ops : Array Oper} {rest : List Oper} {o : Oper} {a : Act} {Q : Exit -> Act -> World -> Prop} {X : World} {arr : Array Value} {tt : TypeId}
  (hgd : o.guard = none) (s x : Operand) (ho : o.op = .call { callee := .builtin .append, args := #[s, x], argTypes := #[t, t] }) (base : Nat) (v : Value) (n : Nat) (xs : List Value) (hs : a.eval s = v) (hown : X.ownsRow base e size v n xs)
  (B m c : Nat) (hx : a.eval x = .slice (some ⟨B, 0, none⟩) m c) (hB : B = X.heap.size) (hl : arr.size = m * size) (h1 : ∀ u ∈ arr.toList, u.oneCell' = true) (hm : n + m <= maxLen) (hb : (n + m) * bytes <= 140737488355328) (hbase : base <= X.heap.size)
  (h : ∀ v' w', w'.ownsRow base e size v' (n + m) (xs ++ arr.toList) -> X.grownBy w' v.ownBlock -> wpList Tryz.prog ops Q rest (a.put o.dst v') w') : wpList Tryz.prog ops Q (o :: rest) a (X.alloc (.cells arr tt)) := by
 subst hB
 obtain ⟨i, hi, hz, hsz, hby⟩ := info_parts E.info
 refine wpList_append_own (X.alloc (.cells arr tt)) hgd s x t ho base e i z size bytes E.ht hi hz hsz hby E.hzs E.hsz v n xs hs (hown.alloc _) ⟨X.heap.size, 0, none⟩ m c arr.toList hx (by simpa using hl) ?_ h1 hm hb (by simp; omega) ?_
 ·intro j u hu
  have : (⟨X.heap.size, 0, none⟩ : Addr).add j = ⟨X.heap.size, j, none⟩ := by unfold Addr.add; split <;> simp_all
  rw [this, World.cell?_alloc_at _ _ _ _ rfl]
  simpa using hu
 intro v' w' h2 h3 _
 refine h v' w' h2 ⟨h3.os, h3.tape, h3.output, ?_, fun k hk hne => ?_⟩
 ·have := h3.size; simp at this; omega
 rw [h3.block k (by simp; omega) hne]
 exact Below.heap_alloc _ _ _ hk
theorem owns_base {w : World} {base : Nat} {e : TypeId} {size : Nat} {v : Value} {n : Nat} {xs : List Value} (h : w.ownsRow base e size v n xs) : ∀ k, v.ownBlock = some k -> base <= k := fun k hk => (h.lt k hk).1
theorem World.setCell_twice (w : World) (p : Addr) (u v : Value) : (w.setCell p u).setCell p v = w.setCell p v := by
 simp only [World.setCell, World.mk.injEq, and_true]
 apply Array.ext_getElem?
 intro i
 simp only [Array.getElem?_modify]
 split
 ·cases w.heap[i]? with
  | none => rfl
  | some o =>
   simp only [Option.map_some, Option.some.injEq]
   cases o with
   | cells c el fr =>
    by_cases h : p.spot.isSome
    ·simp [h]
    simp only [h, Bool.false_eq_true, if_false, Obj.cells.injEq, and_true]
    apply Array.ext_getElem?
    intro j
    simp only [Array.getElem?_setIfInBounds, Array.size_setIfInBounds]
    split
    ·split <;> simp_all
    rfl
   | _ => rfl
 rfl
theorem Ext.set {a b : World} (h : Ext a b) (p : Addr) (v : Value) : Ext (a.setCell p v) (b.setCell p v) := by
 refine ⟨h.os, h.tape, h.output, by simp; exact h.size, fun k hk => ?_⟩
 have hk' : k < a.heap.size := by simpa using hk
 simp only [World.setCell, Array.getElem?_modify]
 rw [h.block k hk']
theorem Ext.setAbove {a b : World} (h : Ext a b) {p : Addr} (hp : a.heap.size <= p.block) (v : Value) : Ext a (b.setCell p v) := Below.setCell h hp v
mutual
def Ex.fits : Ex -> Prop
 | .mk _ name words _ _ args => name.size <= 1000000000000000 /\ (∀ x ∈ words, x.size <= 1000000000000000) /\ fitsAll args
def fitsAll : List Ex -> Prop
 | [] => True
 | e :: r => e.fits /\ fitsAll r
end
theorem fitsAll_at : (l : List Ex) -> fitsAll l -> (k : Nat) -> (hk : k < l.length) -> l[k].fits
 | [], _, k, hk => by simp at hk
 | e :: r, h, 0, _ => by unfold fitsAll at h; exact h.1
 | e :: r, h, k + 1, hk => by unfold fitsAll at h; simpa using fitsAll_at r h.2 k (by simpa using hk)
theorem fits_parts {e : Ex} (h : e.fits) : e.name.size <= 1000000000000000 /\ (∀ x ∈ e.words, x.size <= 1000000000000000) /\ fitsAll e.args := by
 cases e; unfold Ex.fits at h; exact h
mutual
def validF : Ex -> Int -> Int -> Bool × Int
 | .mk op name words lo hi args, d, n =>
  if 300 < n + 1 \/ 16 < d \/ nodeB (.mk op name words lo hi args) = false then (false, n + 1) else validsF args (d + 1) (n + 1)
def validsF : List Ex -> Int -> Int -> Bool × Int
 | [], _, n => (true, n)
 | e :: r, d, n => if (validF e d n).1 then validsF r d (validF e d n).2 else (false, (validF e d n).2)
end
theorem validF_eq (e : Ex) (d n : Int) : validF e d n = if 300 < n + 1 \/ 16 < d \/ nodeB e = false then (false, n + 1) else validsF e.args (d + 1) (n + 1) := by
 cases e; rw [validF]; rfl
theorem validsF_drop (l : List Ex) (k : Nat) (hk : k < l.length) (d n : Int) : validsF (l.drop k) d n = if (validF l[k] d n).1 then validsF (l.drop (k + 1)) d (validF l[k] d n).2 else (false, (validF l[k] d n).2) := by
 rw [List.drop_eq_getElem_cons hk, validsF]
mutual
theorem validF_bd : (e : Ex) -> (d n : Int) -> n <= 300 -> n < (validF e d n).2 /\ (validF e d n).2 <= 301
 | .mk op name words lo hi args, d, n, h => by
  rw [validF]
  split
  ·constructor <;> simp <;> omega
  have := validsF_bd args (d + 1) (n + 1) (by omega)
  omega
theorem validsF_bd : (l : List Ex) -> (d n : Int) -> n <= 300 -> n <= (validsF l d n).2 /\ (validsF l d n).2 <= 301
 | [], d, n, h => by simp [validsF]; omega
 | e :: r, d, n, h => by
  have h1 := validF_bd e d n h
  have h3 := validF_ok e d n
  rw [validsF]
  split
  ·rename_i hok
   have := validsF_bd r d (validF e d n).2 (h3 hok)
   omega
  simp only; omega
theorem validF_ok : (e : Ex) -> (d n : Int) -> (validF e d n).1 = true -> (validF e d n).2 <= 300
 | .mk op name words lo hi args, d, n => by
  rw [validF]
  split
  ·simp
  exact validsF_ok args (d + 1) (n + 1) (by omega)
theorem validsF_ok : (l : List Ex) -> (d n : Int) -> n <= 300 -> (validsF l d n).1 = true -> (validsF l d n).2 <= 300
 | [], d, n, h => by simp [validsF]; omega
 | e :: r, d, n, h => by
  rw [validsF]
  split
  ·rename_i hok
   exact validsF_ok r d _ (validF_ok e d n hok)
  simp
end
def ValidQ (r : Bool × Int) (p : Addr) (w : World) (x : Ending) (w' : World) : Prop := x = .returned (.bool r.1) /\ Ext (w.setCell p (.int .i64 r.2)) w'
theorem validQ_mk {b : Bool} {R : Bool × Int} {b' : Bool} {n : Int} {p : Addr} {w w' : World} (h : R = (b', n)) (hb : b = b') (hx : Ext (w.setCell p (.int .i64 n)) w') : ValidQ R p w (.returned (.bool b)) w' := by
 subst h hb; exact ⟨rfl, hx⟩
theorem valid_calls (m : Nat) : ∀ (e : Ex) (v : Value) (w0 w : World) (bs : Nat) (d n : Int), e.size <= m -> IsEx w0 e v -> HasOps w0 -> e.fits -> Ext w0 w -> w0.heap.size <= bs -> w.cell? ⟨bs, 0, none⟩ = some (.int .i64 n) -> w.frozen? ⟨bs, 0, none⟩ = false ->
  0 <= n -> n <= 300 -> 0 <= d -> d <= 17 -> Calls Tryz.prog 168 #[v, .int .i64 d, .pointer (some ⟨bs, 0, none⟩)] w (ValidQ (validF e d n) ⟨bs, 0, none⟩ w) := by
 induction m with
 | zero => intro e v w0 w bs d n h; cases e; simp [Ex.size] at h
 | succ m ih =>
  intro e v w0 w bs d n hm he ho hf hx hbs hc hz hn0 hn hd0 hd
  have IH := hI ih
  clear ih
  have HE := hI he
  have HO := hI ho
  have HF := hI hf
  have HX := hI hx
  have hbw := block_lt hc
  simp only at hbw
  obtain ⟨aw, nw, cw, aa, na, ca, rfl, hw, hna, hca, ha, hxs⟩ := he.parts
  have HXS := hI hxs
  have HNA := hI hna
  have hse : e.size = 1 + sizes e.args := by cases e; simp [Ex.size, Ex.args]
  have HM := hI (show 1 + sizes e.args <= m + 1 by omega)
  clear he ho hf hx hw hca ha hxs hna hse hm
  by_cases h1 : 300 < n + 1
  ·have H := hI (show validF e d n = (false, n + 1) by rw [validF_eq, if_pos (Or.inl h1)])
   generalize validF e d n = R at *
   unfold exV
   go_enter Tryz.func168, Tryz.ntmps168
   go_wp2_with fail
   go_ret
   exact validQ_mk H.out rfl ((Ext.refl _).alloc _)
  by_cases h2 : 16 < d
  ·have H := hI (show validF e d n = (false, n + 1) by rw [validF_eq, if_pos (Or.inr (Or.inl h2))])
   generalize validF e d n = R at *
   unfold exV
   go_enter Tryz.func168, Tryz.ntmps168
   go_wp2_with fail
   go_ret
   exact validQ_mk H.out rfl ((Ext.refl _).alloc _)
  have HN : Hid (∀ w1, Ext w0 w1 -> Calls Tryz.prog 184 #[exV e.op e.name aw nw cw e.lo e.hi aa na ca] w1 (GivesE (.bool (nodeB e)) w1)) := fun w1 h =>
   node_calls e _ w1 (HE.out.ext h) (HO.out.ext h) (fits_parts HF.out).1 (fits_parts HF.out).2.1
  cases h3 : nodeB e
  ·have H := hI (show validF e d n = (false, n + 1) by rw [validF_eq, if_pos (Or.inr (Or.inr h3))])
   have H3 := hI h3
   clear h3
   generalize validF e d n = R at *
   unfold exV at *
   go_enter Tryz.func168, Tryz.ntmps168
   go_wp2_with fail
   refine (HN.out _ (Ext.alloc (HX.out.setAbove hbs _) _)).mono ?_
   rintro r w1 ⟨rfl, hw1⟩
   rw [H3.out]
   go_wp2_with fail
   go_ret
   exact validQ_mk H.out rfl (((Ext.refl _).alloc _).trans hw1)
  have H := hI (show validF e d n = validsF e.args (d + 1) (n + 1) by rw [validF_eq, if_neg (by simp [h3]; omega)])
  have H3 := hI h3
  have hna : na <= 300 := by
   have := h3
   unfold nodeB at this
   simp only [Bool.and_eq_true, decide_eq_true_eq] at this
   have h4 := this.1.1.1.2.2
   have h5 : opMost e.op.toNat <= 300 := by
    obtain ⟨k, hk⟩ := Int.eq_ofNat_of_zero_le (show 0 <= e.op by omega)
    rw [hk] at this ⊢
    have : k < 9 := by omega
    unfold opMost
    match k, this with | 0, _ | 1, _ | 2, _ | 3, _ | 4, _ | 5, _ | 6, _ | 7, _ | 8, _ => decide
   have := HNA.out
   omega
  clear h3
  generalize validF e d n = R at *
  unfold exV at *
  go_enter Tryz.func168, Tryz.ntmps168
  go_wp2_with fail
  refine (HN.out _ (Ext.alloc (HX.out.setAbove hbs _) _)).mono ?_
  rintro r w1 ⟨rfl, hw1⟩
  rw [H3.out]
  have hx5 : w1.cell? ⟨w.heap.size, 5, none⟩ = some (.slice aa na ca) := hw1.cell (by go_simp)
  have hw2 := hI hw1
  clear hw1
  go_wp2_with fail
  go_loopw [30] (fun i wr => ∃ (k : Nat) (c : Int), k <= na /\ i = .int .i64 k /\ 0 <= c /\ c <= 300 /\ validsF (e.args.drop k) (d + 1) c = R /\ Ext (w.setCell ⟨bs, 0, none⟩ (.int .i64 c)) wr) (fun i _ => na - (intOf i).toNat)
  case atStart => exact ⟨0, n + 1, by omega, rfl, by omega, by omega, by rw [List.drop_zero, H.out], ((Ext.refl _).alloc _).trans hw2.out⟩
  case round =>
   obtain ⟨k, c, hk, rfl, hc0, hc1, hR, hwr⟩ := hrel
   have HR := hI hR
   have HWR := hI hwr
   clear hR hwr hx5 hw2
   by_cases hlt : k < na
   ·have hlt' : k < e.args.length := by have := HNA.out; omega
    have hsz : e.args[k].size <= m := by
     have h1 := sizes_take_succ e.args k hlt'
     have h2 := sizes_take_le e.args (k + 1)
     have := HM.out
     omega
    have hx0 := hI (show Ext w0 wr from (HX.out.setAbove hbs _).trans HWR.out)
    have hcc : wr.cell? ⟨bs, 0, none⟩ = some (.int .i64 c) := HWR.out.cell (World.cell?_setCell_same _ _ _ hc)
    have hcz : wr.frozen? ⟨bs, 0, none⟩ = false := by rw [HWR.out.frozen (World.cell?_setCell_same _ _ _ hc)]; simpa using hz
    have hbr := block_lt hcc
    simp only at hbr
    obtain ⟨b, off, rfl, aw1, nw1, cw1, aa1, na1, ca1, g0, g1, g2, g3, g4, g5, g6⟩ := ExsD.at e.args _ HXS.out k hlt'
    have f0 := hx0.out.cell g0
    have f1 := hx0.out.cell g1
    have f2 := hx0.out.cell g2
    have f3 := hx0.out.cell g3
    have f4 := hx0.out.cell g4
    have f5 := hx0.out.cell g5
    have hcall := hI (fun (w1 : World) (hw : Ext wr w1) => IH.out e.args[k] (exV e.args[k].op e.args[k].name aw1 nw1 cw1 e.args[k].lo e.args[k].hi aa1 na1 ca1) w0 w1 bs (d + 1) c hsz g6 HO.out
     (fitsAll_at _ (fits_parts HF.out).2.2 k hlt') (hx0.out.trans hw) hbs (hw.cell hcc) (by rw [hw.frozen hcc]; exact hcz) hc0 hc1 (by omega) (by omega))
    clear g0 g1 g2 g3 g4 g5 g6 hc hz
    unfold exV at hcall
    have HS := hI (validsF_drop e.args k hlt' (d + 1) c)
    have HD := hI (validF_bd e.args[k] (d + 1) c hc1)
    have HK := hI (validF_ok e.args[k] (d + 1) c)
    generalize validF e.args[k] (d + 1) c = S at *
    obtain ⟨sb, sn⟩ := S
    cases sb
    ·go_wp2_with fail
     refine (hcall.out _ ((Ext.refl wr).alloc _)).mono ?_
     rintro r w1 ⟨rfl, hw1⟩
     go_wp2_with fail
     go_ret
     refine validQ_mk (HR.out.symm.trans HS.out) rfl ?_
     have h1 := (((Ext.refl wr).alloc (.cells #[.int .i64 e.args[k].op, .string e.args[k].name, .slice aw1 nw1 cw1, .int .i64 e.args[k].lo, .int .i64 e.args[k].hi, .slice aa1 na1 ca1] 45)).set ⟨bs, 0, none⟩ (.int .i64 sn)).trans hw1
     have h2 := (HWR.out.set ⟨bs, 0, none⟩ (.int .i64 sn)).trans h1
     rw [World.setCell_twice] at h2
     exact h2
    go_wp2_with fail
    refine (hcall.out _ ((Ext.refl wr).alloc _)).mono ?_
    rintro r w1 ⟨rfl, hw1⟩
    have HW1 := hI hw1
    clear hw1
    go_wp2_with fail
    go_roundw
    case rel =>
     refine ⟨k + 1, sn, by omega, by go_num, ?_, HK.out (by trivial), HS.out.symm.trans HR.out, ?_⟩
     ·have := HD.out; omega
     have h1 := (((Ext.refl wr).alloc (.cells #[.int .i64 e.args[k].op, .string e.args[k].name, .slice aw1 nw1 cw1, .int .i64 e.args[k].lo, .int .i64 e.args[k].hi, .slice aa1 na1 ca1] 45)).set ⟨bs, 0, none⟩ (.int .i64 sn)).trans HW1.out
     have h2 := (HWR.out.set ⟨bs, 0, none⟩ (.int .i64 sn)).trans h1
     rw [World.setCell_twice] at h2
     exact h2
    case measure => simp [intOf]; omega
   have hkn := hI (show k = e.args.length by have := HNA.out; omega)
   go_wp2_with fail
   go_ret
   exact validQ_mk (R := R) (by rw [<- HR.out, hkn.out, List.drop_length, validsF]) rfl HWR.out
def validB (e : Ex) : Bool := (validF e 1 0).1
theorem Valid_calls (e : Ex) (v : Value) (w : World) (he : IsEx w e v) (ho : HasOps w) (hf : e.fits) : Calls Tryz.prog 138 #[v] w (GivesE (.bool (validB e)) w) := by
 have HE := hI he
 have HO := hI ho
 have HF := hI hf
 obtain ⟨aw, nw, cw, aa, na, ca, rfl, -⟩ := he.parts
 clear he ho hf
 unfold exV at *
 go_enter Tryz.func138, Tryz.ntmps138
 go_wp2_with fail
 refine (valid_calls e.size e _ w _ _ 1 0 (Nat.le_refl _) HE.out HO.out HF.out (((Ext.refl w).alloc _).alloc _) (by simp) (by go_simp) (by go_simp) (by omega) (by omega) (by omega) (by omega)).mono ?_
 rintro r w1 ⟨rfl, hw1⟩
 go_wp2_with fail
 go_ret
 exact givesE_bool rfl ((Ext.setAbove (((Ext.refl w).alloc _).alloc _) (by simp) _).trans hw1)
end Go.Proofs.YtefjomofjejklaaGreatDoor
