/-
  Texts of the claim, joined: RTok2, RTok3, RTok4, RTok5, RTok6.
-/
import Derived.Test.YtaepiiediblleaaGreatDoorFo12
import Derived.Test.YtaepiiediblleaaGreatDoorFo11
import Derived.Deep.DeepCutAuto
import Derived.Deep.LoopGhost
namespace Go.Proofs.YtaepiiediblleaaGreatDoor
open Go.RowKit

/-- What an operation of a region that appends tokens leaves: a plain value; a block with tokens; the row, grown to l. -/
inductive What where
  | val (u : Value)
  | blk (ts : List Tok)
  | own (l : List Tok)
def What.plain : What → Bool
  | .val _ => true
  | _ => false
def TokR (base : Nat) (w0 : World) (v : Value) (f : Nat → What) (i : Nat) (u : Value) (W : World) : Prop := match f i with
  | .val x => u = x
  | .blk ts => ∃ x0, u = .slice (some ⟨x0, 0, none⟩) ts.length ts.length ∧ W.heap[x0]? = some (.cells (ts.flatMap tokCells).toArray 73 (0, 0))
  | .own l => OwnT W base l u ∧ Grew w0 v W u
def TokE (gs : List Nat) (k : Nat) (W W' : World) : Prop := k ∈ gs ∨ Ext W W'
def TokG (gs : List Nat) (w0 : World) (v : Value) (L : List Nat) (W : World) : Prop := Chg (rowOf v) w0 W ∧ ((∀ g ∈ gs, g ∉ L) → Ext w0 W)
/-- The rows and blocks outlast no operation that grows the row. -/
def tokApart (ops : Array Oper) (m : Nat) (Kp gs : List Nat) (f : Nat → What) : Bool := (List.range m).all fun i => gs.all fun k => i == k || (f i).plain || !outlasts ops m Kp i k
theorem tokR_keeps {ops : Array Oper} {m : Nat} {Kp gs : List Nat} {f : Nat → What} (hap : tokApart ops m Kp gs f = true) {base : Nat} {w0 : World} {v : Value} :
    ∀ i k u W W', i < m → k < m → i ≠ k → outlasts ops m Kp i k = true → TokR base w0 v f i u W → TokE gs k W W' → TokR base w0 v f i u W' := by
  intro i k u W W' hi _ hik ho hR hE
  unfold TokR at *
  split at hR
  · exact hR
  all_goals
    rcases hE with hE | hE
    · have := List.all_eq_true.1 (List.all_eq_true.1 hap i (by simpa using hi)) k hE
      rename_i hf
      simp [hik, hf, What.plain, ho] at this
  · obtain ⟨x0, h1, h2⟩ := hR
    exact ⟨x0, h1, hE.blk h2⟩
  · exact ⟨hR.1.ext hE, hR.2.trans (hE.grew _)⟩
/-- Before the first append none has been done. -/
theorem tok_before {ops : Array Oper} {m : Nat} {gs L : List Nat} {i : Nat} (hg : (gs.all fun g => g == i || comesAfter ops m g i) = true) (hi : i ∉ L) (hL : ∀ j ∈ L, comesAfter ops m j i = false) : ∀ g ∈ gs, g ∉ L := by
  intro g hgs hgL
  have := List.all_eq_true.1 hg g hgs
  rw [hL g hgL] at this
  simp only [Bool.or_false, beq_iff_eq] at this
  exact hi (this ▸ hgL)
theorem TokG.ext {gs : List Nat} {w0 : World} {v : Value} {L : List Nat} {W W' : World} (h : TokG gs w0 v L W) (hx : Ext W W') (i : Nat) : TokG gs w0 v (L ++ [i]) W' :=
  ⟨h.1.then (hx.chg _), fun hn => (h.2 fun g hg hl => hn g hg (List.mem_append_left _ hl)).trans hx⟩
theorem TokG.grow {gs : List Nat} {w0 : World} {v : Value} {L : List Nat} {W W' : World} {u u' : Value} (h : Grew w0 v W u) (hg : Grew W u W' u') {i : Nat} (hi : i ∈ gs) : TokG gs w0 v (L ++ [i]) W' :=
  ⟨(h.trans hg).1, fun hn => absurd (by simp) (hn i hi)⟩

/-- append of tokens, as a step of such a region. -/
theorem gives_append_tok {ρ : Operand → Value} {W : World} {T : Value → World → Prop} {dst : Option Tmp} {ty : TypeId} {pos : String} {after : Array Edge} {guard : Option (Nat × Bool)}
    (s x : Operand) (base : Nat) (u : Value) (l ts : List Tok) (hs : ρ s = u) (hown : OwnT W base l u) (x0 : Nat) (hx : ρ x = .slice (some ⟨x0, 0, none⟩) ts.length ts.length) (hx0 : W.heap[x0]? = some (.cells (ts.flatMap tokCells).toArray 73 (0, 0)))
    (hm : 0 < ts.length) (hn : l.length + ts.length ≤ 100000000) (hbase : base ≤ W.heap.size)
    (h : ∀ u' w', OwnT w' base (l ++ ts) u' → Grew W u w' u' → T u' w') :
    GivesOp Tryz.prog { dst := dst, op := .call { callee := .builtin .append, args := #[s, x], argTypes := #[22, 22] }, type := ty, pos := pos, after := after, guard := guard } ρ W T := by
  refine gives_append elemTok _ _ base u l.length _ hs x0 ts.length ts.length (ts.flatMap tokCells) hx (length_flatMap_of tokCells 4 (fun _ => rfl) ts) ?_ hm hn (by omega) hown ?_ hbase ?_
  · intro q hq
    obtain ⟨t, _, ht⟩ := List.mem_flatMap.1 hq
    simp only [tokCells, List.mem_cons, List.not_mem_nil, or_false] at ht
    rcases ht with rfl | rfl | rfl | rfl <;> rfl
  · intro j hj
    rw [blk_cell hx0]
    simp
  · intro g cap w' ho hg hl _
    refine h _ _ ?_ ⟨grown_chg hg, fun k hk => ?_⟩
    · unfold OwnT
      rw [List.length_append, List.flatMap_append]
      exact ho
    · simp only [Value.ownBlock] at hk
      injection hk with hk
      subst hk
      rcases hl with hl | hl
      · exact Or.inl hl
      · exact Or.inr (by omega)

theorem tokMore_snoc (op : Int) (a : Ex) : (r : List Ex) → tokMore op (r ++ [a]) = tokMore op r ++ ([nameT (if op = 7 then wAnd else wOr)] ++ argT op a)
  | [] => by simp [tokMore_cons, tokMore]
  | b :: r => by
    have := tokMore_snoc op a r
    simp only [List.cons_append, tokMore_cons, this]
    simp
theorem tokArgs_snoc (op : Int) (a : Ex) (r : List Ex) : tokArgs op (r ++ [a]) = tokArgs op r ++ ((if r.length = 0 then [] else [nameT (if op = 7 then wAnd else wOr)]) ++ argT op a) := by
  cases r with
  | nil => simp [tokArgs_cons, tokArgs, tokMore]
  | cons b r => simp only [List.cons_append, tokArgs_cons, tokMore_snoc]; simp
theorem tokMore_take (op : Int) : (r : List Ex) → (k : Nat) → (tokMore op (r.take k)).length ≤ (tokMore op r).length
  | [], k => by simp
  | b :: r, 0 => by simp [tokMore]
  | b :: r, k + 1 => by have := tokMore_take op r k; simp only [List.take_succ_cons, tokMore_cons, List.length_cons, List.length_append]; omega
theorem tokArgs_take (op : Int) (r : List Ex) (k : Nat) : (tokArgs op (r.take k)).length ≤ (tokArgs op r).length := by
  cases r with
  | nil => simp
  | cons b r =>
    cases k with
    | zero => simp [tokArgs]
    | succ k => have := tokMore_take op r k; simp only [List.take_succ_cons, tokArgs_cons, List.length_append]; omega
theorem listedT_ge : (l : List ByteArray) → l.length ≤ (listedT l).length
  | [] => by simp [listedT]
  | [a] => by simp [listedT]
  | a :: b :: r => by have := listedT_ge (b :: r); simp only [listedT, List.length_cons] at this ⊢; omega
end Go.Proofs.YtaepiiediblleaaGreatDoor

namespace Go.Proofs.YtaepiiediblleaaGreatDoor
open Go.RowKit

/-- One token more. -/
theorem tokQ1 {base : Nat} {l L : List Tok} {v : Value} {w w0 w1 w2 : World} {v2 : Value} {t : Tok} (hL : L = [t]) (h0 : Ext w w0) (h1 : Ext w0 w1) (h2 : OwnT w2 base (l ++ [t]) v2) (h3 : Grew w1 v w2 v2) : TokQ base (l ++ L) v w (.returned v2) w2 := by subst hL; exact ⟨_, rfl, h2, ((h0.trans h1).grew v).trans h3⟩

set_option maxRecDepth 100000 in
set_option maxHeartbeats 1000000 in
theorem tokens_true (e : Ex) (l : List Tok) (v : Value) (base : Nat) (w : World) (ev : Value) (he : IsEx (mask w (rowOf v)) e ev) (ho : OwnT w base l v) (hb : base ≤ w.heap.size) (hl : l.length + (tokE e).length ≤ 10000) (hop : e.op = 1) :
    Calls Tryz.prog 26 #[v, ev] w (TokQ base (l ++ tokE e) v w) := by
  obtain ⟨aw, nw, cw, aa, na, ca, rfl, hw, hna, hca, ha, hx⟩ := he.parts
  have HE := Lib.hid (show tokE e = [nameT wTrue] by cases e; simp only [Ex.op] at hop; subst hop; simp [tokE])
  have hl1 : l.length ≤ 10000 := by omega
  have HO := Lib.hid (ho.ext ((Ext.refl w).alloc (.cells #[.int .i64 e.op, .string e.name, .slice aw nw cw, .int .i64 e.lo, .int .i64 e.hi, .slice aa na ca] 28)))
  have HX := Lib.hid ((Ext.refl w).alloc (.cells #[.int .i64 e.op, .string e.name, .slice aw nw cw, .int .i64 e.lo, .int .i64 e.hi, .slice aa na ca] 28))
  have t1 : (e.op == 1) = true := by simp [hop]
  clear hw hna hca ha hx he ho hl hop
  unfold exV
  go_enter Tryz.func26, Tryz.ntmps26
  go_wp2_with fail
  generalize w.alloc (.cells #[.int .i64 e.op, .string e.name, .slice aw nw cw, .int .i64 e.lo, .int .i64 e.hi, .slice aa na ca] 28) = wb at *
  refine (nameToken_calls _ _).mono ?_
  rintro r w1 ⟨rfl, hx1⟩
  have HX1 := Lib.hid hx1
  have HO1 := Lib.hid (HO.out.ext hx1)
  have hz1 := hx1.size
  have hz0 := HX.out.size
  clear hx1
  simp only [tokV, nameT]
  go_wp2_with (at_builtin; refine wpList_append_tok rfl _ _ rfl base _ _ [nameT wTrue] rfl HO1.out _ 1 1 rfl ?c0 ?c1 rfl ?c2 ?c3 ?c4 ?_)
  case c0 => rfl
  case c1 => rfl
  case c2 => omega
  case c3 => omega
  case c4 => omega
  intro v2 w2 hown2 hgrow2
  have HO2 := Lib.hid hown2
  have HG2 := Lib.hid hgrow2
  clear hown2 hgrow2
  go_wp2_with fail
  go_ret
  exact tokQ1 HE.out HX.out HX1.out HO2.out HG2.out

set_option maxRecDepth 100000 in
set_option maxHeartbeats 1000000 in
theorem tokens_false (e : Ex) (l : List Tok) (v : Value) (base : Nat) (w : World) (ev : Value) (he : IsEx (mask w (rowOf v)) e ev) (ho : OwnT w base l v) (hb : base ≤ w.heap.size) (hl : l.length + (tokE e).length ≤ 10000) (hop : e.op = 2) :
    Calls Tryz.prog 26 #[v, ev] w (TokQ base (l ++ tokE e) v w) := by
  obtain ⟨aw, nw, cw, aa, na, ca, rfl, hw, hna, hca, ha, hx⟩ := he.parts
  have HE := Lib.hid (show tokE e = [nameT wFalse] by cases e; simp only [Ex.op] at hop; subst hop; simp [tokE])
  have hl1 : l.length ≤ 10000 := by omega
  have HO := Lib.hid (ho.ext ((Ext.refl w).alloc (.cells #[.int .i64 e.op, .string e.name, .slice aw nw cw, .int .i64 e.lo, .int .i64 e.hi, .slice aa na ca] 28)))
  have HX := Lib.hid ((Ext.refl w).alloc (.cells #[.int .i64 e.op, .string e.name, .slice aw nw cw, .int .i64 e.lo, .int .i64 e.hi, .slice aa na ca] 28))
  have t1 : (e.op == 1) = false := by simp [hop]
  have t2 : (e.op == 2) = true := by simp [hop]
  clear hw hna hca ha hx he ho hl hop
  unfold exV
  go_enter Tryz.func26, Tryz.ntmps26
  go_wp2_with fail
  generalize w.alloc (.cells #[.int .i64 e.op, .string e.name, .slice aw nw cw, .int .i64 e.lo, .int .i64 e.hi, .slice aa na ca] 28) = wb at *
  refine (nameToken_calls _ _).mono ?_
  rintro r w1 ⟨rfl, hx1⟩
  have HX1 := Lib.hid hx1
  have HO1 := Lib.hid (HO.out.ext hx1)
  have hz1 := hx1.size
  have hz0 := HX.out.size
  clear hx1
  simp only [tokV, nameT]
  go_wp2_with (at_builtin; refine wpList_append_tok rfl _ _ rfl base _ _ [nameT wFalse] rfl HO1.out _ 1 1 rfl ?c0 ?c1 rfl ?c2 ?c3 ?c4 ?_)
  case c0 => rfl
  case c1 => rfl
  case c2 => omega
  case c3 => omega
  case c4 => omega
  intro v2 w2 hown2 hgrow2
  have HO2 := Lib.hid hown2
  have HG2 := Lib.hid hgrow2
  clear hown2 hgrow2
  go_wp2_with fail
  go_ret
  exact tokQ1 HE.out HX.out HX1.out HO2.out HG2.out

set_option maxRecDepth 100000 in
set_option maxHeartbeats 1000000 in
theorem tokens_name (e : Ex) (l : List Tok) (v : Value) (base : Nat) (w : World) (ev : Value) (he : IsEx (mask w (rowOf v)) e ev) (ho : OwnT w base l v) (hb : base ≤ w.heap.size) (hl : l.length + (tokE e).length ≤ 10000) (hop : e.op = 3) :
    Calls Tryz.prog 26 #[v, ev] w (TokQ base (l ++ tokE e) v w) := by
  obtain ⟨aw, nw, cw, aa, na, ca, rfl, hw, hna, hca, ha, hx⟩ := he.parts
  have HE := Lib.hid (show tokE e = [nameT e.name] by cases e; simp only [Ex.op] at hop; subst hop; simp [tokE, Ex.name])
  have hl1 : l.length ≤ 10000 := by omega
  have HO := Lib.hid (ho.ext ((Ext.refl w).alloc (.cells #[.int .i64 e.op, .string e.name, .slice aw nw cw, .int .i64 e.lo, .int .i64 e.hi, .slice aa na ca] 28)))
  have HX := Lib.hid ((Ext.refl w).alloc (.cells #[.int .i64 e.op, .string e.name, .slice aw nw cw, .int .i64 e.lo, .int .i64 e.hi, .slice aa na ca] 28))
  have t1 : (e.op == 1) = false := by simp [hop]
  have t2 : (e.op == 2) = false := by simp [hop]
  have t3 : (e.op == 3) = true := by simp [hop]
  clear hw hna hca ha hx he ho hl hop
  unfold exV
  go_enter Tryz.func26, Tryz.ntmps26
  go_wp2_with fail
  generalize w.alloc (.cells #[.int .i64 e.op, .string e.name, .slice aw nw cw, .int .i64 e.lo, .int .i64 e.hi, .slice aa na ca] 28) = wb at *
  refine (nameToken_calls _ _).mono ?_
  rintro r w1 ⟨rfl, hx1⟩
  have HX1 := Lib.hid hx1
  have HO1 := Lib.hid (HO.out.ext hx1)
  have hz1 := hx1.size
  have hz0 := HX.out.size
  clear hx1
  simp only [tokV, nameT]
  go_wp2_with (at_builtin; refine wpList_append_tok rfl _ _ rfl base _ _ [nameT e.name] rfl HO1.out _ 1 1 rfl ?c0 ?c1 rfl ?c2 ?c3 ?c4 ?_)
  case c0 => rfl
  case c1 => rfl
  case c2 => omega
  case c3 => omega
  case c4 => omega
  intro v2 w2 hown2 hgrow2
  have HO2 := Lib.hid hown2
  have HG2 := Lib.hid hgrow2
  clear hown2 hgrow2
  go_wp2_with fail
  go_ret
  exact tokQ1 HE.out HX.out HX1.out HO2.out HG2.out
end Go.Proofs.YtaepiiediblleaaGreatDoor

namespace Go.Proofs.YtaepiiediblleaaGreatDoor
open Go.RowKit

def fIn (v : Value) (be : Nat) (l : List Tok) (name : ByteArray) (words : List ByteArray) (aw : Option Addr) (nw cw : Nat) : Nat → What
  | 0 => .val v
  | 1 => .val (.pointer (some ⟨be, 1, none⟩))
  | 2 => .val (.string name)
  | 3 => .val (tokV (nameT name))
  | 4 => .val (tokV (nameT wIn))
  | 5 => .val (tokV (markT 40))
  | 6 => .blk [nameT name, nameT wIn, markT 40]
  | 7 => .own (l ++ [nameT name, nameT wIn, markT 40])
  | 8 => .val (.pointer (some ⟨be, 2, none⟩))
  | 9 => .val (.slice aw nw cw)
  | 10 => .own (l ++ [nameT name, nameT wIn, markT 40] ++ listedT words)
  | 11 => .val (tokV (markT 41))
  | 12 => .blk [markT 41]
  | 13 => .own (l ++ [nameT name, nameT wIn, markT 40] ++ listedT words ++ [markT 41])
  | _ => .val undef

set_option maxRecDepth 100000 in
set_option maxHeartbeats 2000000 in
theorem tokens_in (e : Ex) (l : List Tok) (v : Value) (base : Nat) (w : World) (ev : Value) (he : IsEx (mask w (rowOf v)) e ev) (ho : OwnT w base l v) (hb : base ≤ w.heap.size) (hl : l.length + (tokE e).length ≤ 10000) (hop : e.op = 4) :
    Calls Tryz.prog 26 #[v, ev] w (TokQ base (l ++ tokE e) v w) := by
  obtain ⟨aw, nw, cw, aa, na, ca, rfl, hw, hna, hca, ha, hx⟩ := he.parts
  have HE := Lib.hid (show tokE e = [nameT e.name, nameT wIn, markT 40] ++ listedT e.words ++ [markT 41] by cases e; simp only [Ex.op] at hop; subst hop; simp [tokE, Ex.name, Ex.words])
  have hl1 : l.length + 3 + (listedT e.words).length + 1 ≤ 10000 := by rw [HE.out] at hl; simp at hl; omega
  have hl2 := listedT_ge e.words
  have hl3 : nw ≤ 10000 := by have := hw.1; omega
  have HX := Lib.hid ((Ext.refl w).alloc (.cells #[.int .i64 e.op, .string e.name, .slice aw nw cw, .int .i64 e.lo, .int .i64 e.hi, .slice aa na ca] 28))
  have HW := Lib.hid (hw.mono (HX.out.grew v).sub)
  have HO := Lib.hid (ho.ext HX.out)
  have HBX := Lib.hid (alloc_new w (.cells #[.int .i64 e.op, .string e.name, .slice aw nw cw, .int .i64 e.lo, .int .i64 e.hi, .slice aa na ca] 28))
  have HNR := Lib.hid (show w.heap.size ∉ rowOf v from fun h => by have := (ho.lt h).2; omega)
  have t1 : (e.op == 1) = false := by simp [hop]
  have t2 : (e.op == 2) = false := by simp [hop]
  have t3 : (e.op == 3) = false := by simp [hop]
  have t4 : (e.op == 4) = true := by simp [hop]
  clear hw hna hca ha hx he ho hl hop
  unfold exV
  go_enter Tryz.func26, Tryz.ntmps26
  go_wp2_with fail
  generalize w.alloc (.cells #[.int .i64 e.op, .string e.name, .slice aw nw cw, .int .i64 e.lo, .int .i64 e.hi, .slice aa na ca] 28) = wb at *
  have hz0 := HX.out.size
  refine wp_region_growL (m := 14) [13] (TokG [7, 10, 13] wb v) (TokE [7, 10, 13]) (TokR base wb v (fIn v w.heap.size l e.name e.words aw nw cw)) (by kernel_rfl) (by kernel_rfl) ⟨(Chg.refl _ _).drew, fun _ => (Ext.refl wb).drew⟩ (tokR_keeps (by kernel_rfl)) ?_ ?_
  · intro i o hi ho L vs W hiL hnc hG hd ρ hρ
    have hi' : i = 0 ∨ i = 1 ∨ i = 2 ∨ i = 3 ∨ i = 4 ∨ i = 5 ∨ i = 6 ∨ i = 7 ∨ i = 8 ∨ i = 9 ∨ i = 10 ∨ i = 11 ∨ i = 12 ∨ i = 13 := by omega
    clear hi
    have o0 : ρ (.tmp 0) = v := hρ.out 0 rfl
    have o3 : ρ (.tmp 3) = .pointer (some ⟨w.heap.size, 0, none⟩) := hρ.out 3 rfl
    have i1 := hρ.ins 1 33 (by omega) rfl (Nat.le_of_ble_eq_true rfl)
    have i2 := hρ.ins 2 34 (by omega) rfl (Nat.le_of_ble_eq_true rfl)
    have i3 := hρ.ins 3 35 (by omega) rfl (Nat.le_of_ble_eq_true rfl)
    have i4 := hρ.ins 4 36 (by omega) rfl (Nat.le_of_ble_eq_true rfl)
    have i5 := hρ.ins 5 37 (by omega) rfl (Nat.le_of_ble_eq_true rfl)
    have i0 := hρ.ins 0 32 (by omega) rfl (Nat.le_of_ble_eq_true rfl)
    have i6 := hρ.ins 6 38 (by omega) rfl (Nat.le_of_ble_eq_true rfl)
    have i8 := hρ.ins 8 40 (by omega) rfl (Nat.le_of_ble_eq_true rfl)
    have i7 := hρ.ins 7 39 (by omega) rfl (Nat.le_of_ble_eq_true rfl)
    have i9 := hρ.ins 9 41 (by omega) rfl (Nat.le_of_ble_eq_true rfl)
    have i11 := hρ.ins 11 43 (by omega) rfl (Nat.le_of_ble_eq_true rfl)
    have i10 := hρ.ins 10 42 (by omega) rfl (Nat.le_of_ble_eq_true rfl)
    have i12 := hρ.ins 12 44 (by omega) rfl (Nat.le_of_ble_eq_true rfl)
    have hcs := hρ.const
    have hfn := hρ.func
    clear hρ
    have hbW := hG.1.blk HBX.out HNR.out
    obtain ⟨b0, b1, b2, b3, b4, b5, bf⟩ := blk6 hbW
    have hwz := hG.1.size
    have HG := Lib.hid hG
    clear hG hbW
    rcases hi' with rfl | rfl | rfl | rfl | rfl | rfl | rfl | rfl | rfl | rfl | rfl | rfl | rfl | rfl
    · cases ho
      unfold GivesOp
      go_simp
      exact ⟨Or.inr (Ext.refl _), HG.out.ext (Ext.refl _) _, rfl⟩
    · cases ho
      unfold GivesOp
      go_simp
      exact ⟨Or.inr (Ext.refl _), HG.out.ext (Ext.refl _) _, rfl⟩
    · cases ho
      have h1 : vs 1 = _ := hd ⟨1, .data⟩ (by simp) rfl
      rw [h1] at i1
      unfold GivesOp
      go_simp
      exact ⟨Or.inr (Ext.refl _), HG.out.ext (Ext.refl _) _, rfl⟩
    · cases ho
      have h1 : vs 2 = _ := hd ⟨2, .data⟩ (by simp) rfl
      rw [h1] at i2
      unfold GivesOp
      go_simp
      refine (nameToken_calls _ _).mono ?_
      rintro q W' ⟨rfl, hx⟩
      exact ⟨_, rfl, Or.inr hx, HG.out.ext hx _, rfl⟩
    · cases ho
      unfold GivesOp
      go_simp
      refine (nameToken_calls _ _).mono ?_
      rintro q W' ⟨rfl, hx⟩
      exact ⟨_, rfl, Or.inr hx, HG.out.ext hx _, rfl⟩
    · cases ho
      unfold GivesOp
      go_simp
      refine (markToken_calls _ _).mono ?_
      rintro q W' ⟨rfl, hx⟩
      exact ⟨_, rfl, Or.inr hx, HG.out.ext hx _, rfl⟩
    · cases ho
      have h3 : vs 3 = _ := hd ⟨3, .data⟩ (by simp) rfl
      have h4 : vs 4 = _ := hd ⟨4, .data⟩ (by simp) rfl
      have h5 : vs 5 = _ := hd ⟨5, .data⟩ (by simp) rfl
      rw [h3] at i3
      rw [h4] at i4
      rw [h5] at i5
      unfold tokV nameT at i3 i4
      unfold tokV markT at i5
      unfold GivesOp
      go_simp
      exact ⟨Or.inr ((Ext.refl _).alloc _), HG.out.ext ((Ext.refl _).alloc _) _, W.heap.size, rfl, alloc_new W _⟩
    · cases ho
      have h0 : vs 0 = _ := hd ⟨0, .data⟩ (by simp) rfl
      obtain ⟨x0, h6, hx0⟩ := hd ⟨6, .data⟩ (by simp) rfl
      rw [h0] at i0
      rw [h6] at i6
      have hxW := HG.out.2 (tok_before (by decide +kernel) hiL hnc)
      refine gives_append_tok _ _ base v l _ i0 (HO.out.ext hxW) x0 i6 hx0 (by simp) (by simp; omega) (by omega) ?_
      intro u' w' ho' hg'
      exact ⟨Or.inl (by simp), TokG.grow (hxW.grew v) hg' (by simp), ho', (hxW.grew v).trans hg'⟩
    · cases ho
      unfold GivesOp
      go_simp
      exact ⟨Or.inr (Ext.refl _), HG.out.ext (Ext.refl _) _, rfl⟩
    · cases ho
      have h1 : vs 8 = _ := hd ⟨8, .data⟩ (by simp) rfl
      rw [h1] at i8
      unfold GivesOp
      go_simp
      exact ⟨Or.inr (Ext.refl _), HG.out.ext (Ext.refl _) _, rfl⟩
    · cases ho
      obtain ⟨ho7, hg7⟩ := hd ⟨7, .data⟩ (by simp) rfl
      have h9 : vs 9 = _ := hd ⟨9, .data⟩ (by simp) rfl
      rw [h9] at i9
      have HO7 := Lib.hid ho7
      have HG7 := Lib.hid hg7
      clear ho7 hg7
      generalize vs 7 = u7 at *
      unfold GivesOp
      go_simp
      refine (listed_calls e.words _ u7 base aw nw cw W HO7.out (HW.out.mono HG7.out.sub) (by omega) (by simp; omega) (by omega)).mono ?_
      rintro q W' ⟨u', rfl, ho', hg'⟩
      exact ⟨_, rfl, Or.inl (by simp), TokG.grow HG7.out hg' (by simp), ho', HG7.out.trans hg'⟩
    · cases ho
      unfold GivesOp
      go_simp
      refine (markToken_calls _ _).mono ?_
      rintro q W' ⟨rfl, hx⟩
      exact ⟨_, rfl, Or.inr hx, HG.out.ext hx _, rfl⟩
    · cases ho
      have h3 : vs 11 = _ := hd ⟨11, .data⟩ (by simp) rfl
      rw [h3] at i11
      unfold tokV markT at i11
      unfold GivesOp
      go_simp
      exact ⟨Or.inr ((Ext.refl _).alloc _), HG.out.ext ((Ext.refl _).alloc _) _, W.heap.size, rfl, alloc_new W _⟩
    · cases ho
      obtain ⟨ho7, hg7⟩ := hd ⟨10, .data⟩ (by simp) rfl
      obtain ⟨x0, h6, hx0⟩ := hd ⟨12, .data⟩ (by simp) rfl
      rw [h6] at i12
      refine gives_append_tok _ _ base (vs 10) _ _ i10 ho7 x0 i12 hx0 (by simp) (by simp; omega) (by omega) ?_
      intro u' w' ho' hg'
      exact ⟨Or.inl (by simp), TokG.grow hg7 hg' (by simp), ho', hg7.trans hg'⟩
  · intro L vs W _ hG hR
    rw [if_neg (by decide +kernel)]
    obtain ⟨ho', hg'⟩ := hR 13 (by simp) (by omega)
    have HO2 := Lib.hid ho'
    have HG2 := Lib.hid hg'
    clear hG hR ho' hg'
    unfold wpOp
    simp only [acts, dstAt, List.range, List.range.loop, List.foldl_cons, List.foldl_nil]
    go_simp
    refine Or.inl ?_
    go_wp2_with fail
    go_ret
    exact ⟨_, rfl, by rw [HE.out]; simpa using HO2.out, (HX.out.grew v).trans HG2.out⟩
end Go.Proofs.YtaepiiediblleaaGreatDoor

namespace Go.Proofs.YtaepiiediblleaaGreatDoor
open Go.RowKit

def btwT (name : ByteArray) (lo hi : Int) : List Tok := [nameT name, nameT wFrom, numT lo, nameT wTo, numT hi]
def fBtw (v : Value) (be : Nat) (l : List Tok) (name : ByteArray) (lo hi : Int) : Nat → What
  | 0 => .val v
  | 1 => .val (.pointer (some ⟨be, 1, none⟩))
  | 2 => .val (.string name)
  | 3 => .val (tokV (nameT name))
  | 4 => .val (tokV (nameT wFrom))
  | 5 => .val (.pointer (some ⟨be, 3, none⟩))
  | 6 => .val (.int .i64 lo)
  | 7 => .val (tokV (numT lo))
  | 8 => .val (tokV (nameT wTo))
  | 9 => .val (.pointer (some ⟨be, 4, none⟩))
  | 10 => .val (.int .i64 hi)
  | 11 => .val (tokV (numT hi))
  | 12 => .blk (btwT name lo hi)
  | 13 => .own (l ++ btwT name lo hi)
  | _ => .val undef

set_option maxRecDepth 100000 in
set_option maxHeartbeats 2000000 in
theorem tokens_btw (e : Ex) (l : List Tok) (v : Value) (base : Nat) (w : World) (ev : Value) (he : IsEx (mask w (rowOf v)) e ev) (ho : OwnT w base l v) (hb : base ≤ w.heap.size) (hl : l.length + (tokE e).length ≤ 10000) (hop : e.op = 5) :
    Calls Tryz.prog 26 #[v, ev] w (TokQ base (l ++ tokE e) v w) := by
  obtain ⟨aw, nw, cw, aa, na, ca, rfl, hw, hna, hca, ha, hx⟩ := he.parts
  have HE := Lib.hid (show tokE e = btwT e.name e.lo e.hi by cases e; simp only [Ex.op] at hop; subst hop; simp [tokE, btwT, Ex.name, Ex.lo, Ex.hi])
  have hl1 : l.length + 5 ≤ 10000 := by rw [HE.out] at hl; simp [btwT] at hl; omega
  have HX := Lib.hid ((Ext.refl w).alloc (.cells #[.int .i64 e.op, .string e.name, .slice aw nw cw, .int .i64 e.lo, .int .i64 e.hi, .slice aa na ca] 28))
  have HO := Lib.hid (ho.ext HX.out)
  have HBX := Lib.hid (alloc_new w (.cells #[.int .i64 e.op, .string e.name, .slice aw nw cw, .int .i64 e.lo, .int .i64 e.hi, .slice aa na ca] 28))
  have HNR := Lib.hid (show w.heap.size ∉ rowOf v from fun h => by have := (ho.lt h).2; omega)
  have t1 : (e.op == 1) = false := by simp [hop]
  have t2 : (e.op == 2) = false := by simp [hop]
  have t3 : (e.op == 3) = false := by simp [hop]
  have t4 : (e.op == 4) = false := by simp [hop]
  have t5 : (e.op == 5) = true := by simp [hop]
  clear hw hna hca ha hx he ho hl hop
  unfold exV
  go_enter Tryz.func26, Tryz.ntmps26
  go_wp2_with fail
  generalize w.alloc (.cells #[.int .i64 e.op, .string e.name, .slice aw nw cw, .int .i64 e.lo, .int .i64 e.hi, .slice aa na ca] 28) = wb at *
  have hz0 := HX.out.size
  refine wp_region_growL (m := 14) [13] (TokG [13] wb v) (TokE [13]) (TokR base wb v (fBtw v w.heap.size l e.name e.lo e.hi)) (by kernel_rfl) (by kernel_rfl) ⟨(Chg.refl _ _).drew, fun _ => (Ext.refl wb).drew⟩ (tokR_keeps (by kernel_rfl)) ?_ ?_
  · intro i o hi ho L vs W hiL hnc hG hd ρ hρ
    have hi' : i = 0 ∨ i = 1 ∨ i = 2 ∨ i = 3 ∨ i = 4 ∨ i = 5 ∨ i = 6 ∨ i = 7 ∨ i = 8 ∨ i = 9 ∨ i = 10 ∨ i = 11 ∨ i = 12 ∨ i = 13 := by omega
    clear hi
    have o0 : ρ (.tmp 0) = v := hρ.out 0 rfl
    have o3 : ρ (.tmp 3) = .pointer (some ⟨w.heap.size, 0, none⟩) := hρ.out 3 rfl
    have i0 := hρ.ins 0 48 (by omega) rfl (Nat.le_of_ble_eq_true rfl)
    have i1 := hρ.ins 1 49 (by omega) rfl (Nat.le_of_ble_eq_true rfl)
    have i2 := hρ.ins 2 50 (by omega) rfl (Nat.le_of_ble_eq_true rfl)
    have i3 := hρ.ins 3 51 (by omega) rfl (Nat.le_of_ble_eq_true rfl)
    have i4 := hρ.ins 4 52 (by omega) rfl (Nat.le_of_ble_eq_true rfl)
    have i5 := hρ.ins 5 53 (by omega) rfl (Nat.le_of_ble_eq_true rfl)
    have i6 := hρ.ins 6 54 (by omega) rfl (Nat.le_of_ble_eq_true rfl)
    have i7 := hρ.ins 7 55 (by omega) rfl (Nat.le_of_ble_eq_true rfl)
    have i8 := hρ.ins 8 56 (by omega) rfl (Nat.le_of_ble_eq_true rfl)
    have i9 := hρ.ins 9 57 (by omega) rfl (Nat.le_of_ble_eq_true rfl)
    have i10 := hρ.ins 10 58 (by omega) rfl (Nat.le_of_ble_eq_true rfl)
    have i11 := hρ.ins 11 59 (by omega) rfl (Nat.le_of_ble_eq_true rfl)
    have i12 := hρ.ins 12 60 (by omega) rfl (Nat.le_of_ble_eq_true rfl)
    have hcs := hρ.const
    have hfn := hρ.func
    clear hρ
    have hbW := hG.1.blk HBX.out HNR.out
    obtain ⟨b0, b1, b2, b3, b4, b5, bf⟩ := blk6 hbW
    have hwz := hG.1.size
    have HG := Lib.hid hG
    clear hG hbW
    rcases hi' with rfl | rfl | rfl | rfl | rfl | rfl | rfl | rfl | rfl | rfl | rfl | rfl | rfl | rfl
    · cases ho
      unfold GivesOp
      go_simp
      exact ⟨Or.inr (Ext.refl _), HG.out.ext (Ext.refl _) _, rfl⟩
    · cases ho
      unfold GivesOp
      go_simp
      exact ⟨Or.inr (Ext.refl _), HG.out.ext (Ext.refl _) _, rfl⟩
    · cases ho
      have h1 : vs 1 = _ := hd ⟨1, .data⟩ (by simp) rfl
      rw [h1] at i1
      unfold GivesOp
      go_simp
      exact ⟨Or.inr (Ext.refl _), HG.out.ext (Ext.refl _) _, rfl⟩
    · cases ho
      have h2 : vs 2 = _ := hd ⟨2, .data⟩ (by simp) rfl
      rw [h2] at i2
      unfold GivesOp
      go_simp
      refine (nameToken_calls _ _).mono ?_
      rintro q W' ⟨rfl, hx⟩
      exact ⟨_, rfl, Or.inr hx, HG.out.ext hx _, rfl⟩
    · cases ho
      unfold GivesOp
      go_simp
      refine (nameToken_calls _ _).mono ?_
      rintro q W' ⟨rfl, hx⟩
      exact ⟨_, rfl, Or.inr hx, HG.out.ext hx _, rfl⟩
    · cases ho
      unfold GivesOp
      go_simp
      exact ⟨Or.inr (Ext.refl _), HG.out.ext (Ext.refl _) _, rfl⟩
    · cases ho
      have h5 : vs 5 = _ := hd ⟨5, .data⟩ (by simp) rfl
      rw [h5] at i5
      unfold GivesOp
      go_simp
      exact ⟨Or.inr (Ext.refl _), HG.out.ext (Ext.refl _) _, rfl⟩
    · cases ho
      have h6 : vs 6 = _ := hd ⟨6, .data⟩ (by simp) rfl
      rw [h6] at i6
      unfold GivesOp
      go_simp
      refine (numberToken_calls _ _).mono ?_
      rintro q W' ⟨rfl, hx⟩
      exact ⟨_, rfl, Or.inr hx, HG.out.ext hx _, rfl⟩
    · cases ho
      unfold GivesOp
      go_simp
      refine (nameToken_calls _ _).mono ?_
      rintro q W' ⟨rfl, hx⟩
      exact ⟨_, rfl, Or.inr hx, HG.out.ext hx _, rfl⟩
    · cases ho
      unfold GivesOp
      go_simp
      exact ⟨Or.inr (Ext.refl _), HG.out.ext (Ext.refl _) _, rfl⟩
    · cases ho
      have h9 : vs 9 = _ := hd ⟨9, .data⟩ (by simp) rfl
      rw [h9] at i9
      unfold GivesOp
      go_simp
      exact ⟨Or.inr (Ext.refl _), HG.out.ext (Ext.refl _) _, rfl⟩
    · cases ho
      have h10 : vs 10 = _ := hd ⟨10, .data⟩ (by simp) rfl
      rw [h10] at i10
      unfold GivesOp
      go_simp
      refine (numberToken_calls _ _).mono ?_
      rintro q W' ⟨rfl, hx⟩
      exact ⟨_, rfl, Or.inr hx, HG.out.ext hx _, rfl⟩
    · cases ho
      have h3 : vs 3 = _ := hd ⟨3, .data⟩ (by simp) rfl
      rw [h3] at i3
      have h4 : vs 4 = _ := hd ⟨4, .data⟩ (by simp) rfl
      rw [h4] at i4
      have h7 : vs 7 = _ := hd ⟨7, .data⟩ (by simp) rfl
      rw [h7] at i7
      have h8 : vs 8 = _ := hd ⟨8, .data⟩ (by simp) rfl
      rw [h8] at i8
      have h11 : vs 11 = _ := hd ⟨11, .data⟩ (by simp) rfl
      rw [h11] at i11
      unfold tokV nameT at i3 i4 i8
      unfold tokV numT at i7 i11
      unfold GivesOp
      go_simp
      exact ⟨Or.inr ((Ext.refl _).alloc _), HG.out.ext ((Ext.refl _).alloc _) _, W.heap.size, rfl, alloc_new W _⟩
    · cases ho
      have h0 : vs 0 = _ := hd ⟨0, .data⟩ (by simp) rfl
      obtain ⟨x0, h6, hx0⟩ := hd ⟨12, .data⟩ (by simp) rfl
      rw [h0] at i0
      rw [h6] at i12
      have hxW := HG.out.2 (tok_before (by decide +kernel) hiL hnc)
      refine gives_append_tok _ _ base v l _ i0 (HO.out.ext hxW) x0 i12 hx0 (by simp [btwT]) (by simp [btwT]; omega) (by omega) ?_
      intro u' w' ho' hg'
      exact ⟨Or.inl (by simp), TokG.grow (hxW.grew v) hg' (by simp), ho', (hxW.grew v).trans hg'⟩
  · intro L vs W _ hG hR
    rw [if_neg (by decide +kernel)]
    obtain ⟨ho', hg'⟩ := hR 13 (by simp) (by omega)
    have HO2 := Lib.hid ho'
    have HG2 := Lib.hid hg'
    clear hG hR ho' hg'
    unfold wpOp
    simp only [acts, dstAt, List.range, List.range.loop, List.foldl_cons, List.foldl_nil]
    go_simp
    refine Or.inl ?_
    go_wp2_with fail
    go_ret
    exact ⟨_, rfl, by rw [HE.out]; simpa using HO2.out, (HX.out.grew v).trans HG2.out⟩
end Go.Proofs.YtaepiiediblleaaGreatDoor

namespace Go.Proofs.YtaepiiediblleaaGreatDoor
open Go.RowKit

theorem tokE_eq0 (e : Ex) : tokE e = if e.op = 1 then [nameT wTrue] else if e.op = 2 then [nameT wFalse] else if e.op = 3 then [nameT e.name] else
    if e.op = 4 then [nameT e.name, nameT wIn, markT 40] ++ listedT e.words ++ [markT 41] else
    if e.op = 5 then [nameT e.name, nameT wFrom, numT e.lo, nameT wTo, numT e.hi] else
    (if e.op = 6 then [nameT wNot] else []) ++ tokArgs e.op e.args := by cases e; rw [tokE]; rfl
def wordOf (op : Int) : ByteArray := if op = 7 then wAnd else wOr
def preT (op : Int) : List Tok := if op = 6 then [nameT wNot] else []
/-- What tokens does for expressions of at most a size. -/
def TokensDo (m : Nat) : Prop := ∀ (e : Ex) (l : List Tok) (v : Value) (base : Nat) (w : World) (ev : Value), e.size ≤ m → IsEx (mask w (rowOf v)) e ev → OwnT w base l v → base ≤ w.heap.size → l.length + (tokE e).length ≤ 10000 → Calls Tryz.prog 26 #[v, ev] w (TokQ base (l ++ tokE e) v w)
def fPar (u : Value) (ev : Value) (l : List Tok) (a : Ex) : Nat → What
  | 0 => .val u
  | 1 => .val (tokV (markT 40))
  | 2 => .blk [markT 40]
  | 3 => .own (l ++ [markT 40])
  | 4 => .val ev
  | 5 => .own (l ++ [markT 40] ++ tokE a)
  | 6 => .val (tokV (markT 41))
  | 7 => .blk [markT 41]
  | 8 => .own (l ++ [markT 40] ++ tokE a ++ [markT 41])
  | _ => .val undef
theorem Grew.notMem {w w' : World} {v v' : Value} (h : Grew w v w' v') {k : Nat} (hk : k < w.heap.size) (hn : k ∉ rowOf v) : k ∉ rowOf v' := fun hm => by
  rcases h.2 k (mem_rowOf.1 hm) with h1 | h1
  · exact hn (mem_rowOf.2 h1)
  · omega
theorem wordOf_len (op : Int) : (nameT (wordOf op)) = nameT (if op = 7 then wAnd else wOr) := rfl

set_option maxRecDepth 100000 in
set_option maxHeartbeats 4000000 in
theorem tokens_args (m : Nat) (ih : TokensDo m) (e : Ex) (l : List Tok) (v : Value) (base : Nat) (w : World) (ev : Value) (hm : e.size ≤ m + 1) (hMM : m ≤ 1000000000) (he : IsEx (mask w (rowOf v)) e ev) (ho : OwnT w base l v) (hb : base ≤ w.heap.size) (hl : l.length + (tokE e).length ≤ 10000) (hop : e.op ≠ 1 ∧ e.op ≠ 2 ∧ e.op ≠ 3 ∧ e.op ≠ 4 ∧ e.op ≠ 5) :
    Calls Tryz.prog 26 #[v, ev] w (TokQ base (l ++ tokE e) v w) := by
  obtain ⟨aw, nw, cw, aa, na, ca, rfl, hw, hna, hca, ha, hx⟩ := he.parts
  have HE := Lib.hid (show tokE e = preT e.op ++ tokArgs e.op e.args by rw [tokE_eq0, if_neg hop.1, if_neg hop.2.1, if_neg hop.2.2.1, if_neg hop.2.2.2.1, if_neg hop.2.2.2.2]; rfl)
  have HLL := Lib.hid (show l.length + ((preT e.op).length + (tokArgs e.op e.args).length) ≤ 10000 by rw [HE.out, List.length_append] at hl; exact hl)
  have hll1 : l.length ≤ 10000 := by omega
  have HX := Lib.hid ((Ext.refl w).alloc (.cells #[.int .i64 e.op, .string e.name, .slice aw nw cw, .int .i64 e.lo, .int .i64 e.hi, .slice aa na ca] 28))
  have HO := Lib.hid (ho.ext HX.out)
  have HXS := Lib.hid (ExsD.mono (HX.out.grew v).sub e.args aa hx)
  have HBX := Lib.hid (alloc_new w (.cells #[.int .i64 e.op, .string e.name, .slice aw nw cw, .int .i64 e.lo, .int .i64 e.hi, .slice aa na ca] 28))
  have HNR := Lib.hid (show w.heap.size ∉ rowOf v from fun h => by have := (ho.lt h).2; omega)
  have HNA := Lib.hid hna
  have IH := Lib.hid ih
  have hS : e.size = 1 + sizes e.args := e.size_eq
  have hb2 : sizes e.args ≤ m := by omega
  have hla := length_le_sizes e.args
  have hna2 : na ≤ 1000000000 := by omega
  have t1 : (e.op == 1) = false := by simp [hop.1]
  have t2 : (e.op == 2) = false := by simp [hop.2.1]
  have t3 : (e.op == 3) = false := by simp [hop.2.2.1]
  have t4 : (e.op == 4) = false := by simp [hop.2.2.2.1]
  have t5 : (e.op == 5) = false := by simp [hop.2.2.2.2]
  clear hw hna hca ha hx he ho hl hop hS hm hla ih
  unfold exV
  go_enter Tryz.func26, Tryz.ntmps26
  go_upto_if 64 with fail
  generalize w.alloc (.cells #[.int .i64 e.op, .string e.name, .slice aw nw cw, .int .i64 e.lo, .int .i64 e.hi, .slice aa na ca] 28) = wb at *
  obtain ⟨b0, b1, b2, b3, b4, b5, bf⟩ := blk6 HBX.out
  have hz0 := HX.out.size
  go_cut [5] (fun s5 wx => s5 = .string (wordOf e.op) ∧ wb = wx)
  case first =>
    by_cases h7 : e.op = 7
    · have t7 : (e.op == 7) = true := by simp [h7]
      have HWD := Lib.hid (show wordOf e.op = wAnd by rw [wordOf, if_pos h7])
      clear h7
      go_wp2_with fail
      go_meet
      case rel => exact ⟨by rw [HWD.out]; rfl, rfl⟩
    · have t7 : (e.op == 7) = false := by simp [h7]
      have HWD := Lib.hid (show wordOf e.op = wOr by rw [wordOf, if_neg h7])
      clear h7
      go_wp2_with fail
      go_meet
      case rel => exact ⟨by rw [HWD.out]; rfl, rfl⟩
  case rest =>
  obtain ⟨rfl, rfl⟩ := hcut
  go_upto_if 67 with fail
  go_cut [0] (fun s0 wx => OwnT wx base (l ++ preT e.op) s0 ∧ Grew wb v wx s0)
  case first =>
    by_cases h6 : e.op = 6
    · have t6 : (e.op == 6) = true := by simp [h6]
      have HPR := Lib.hid (show preT e.op = [nameT wNot] by rw [preT, if_pos h6])
      clear h6
      go_wp2_with fail
      refine (nameToken_calls _ _).mono ?_
      rintro r w1 ⟨rfl, hx1⟩
      have HOW := Lib.hid (HO.out.ext hx1)
      have HGW := Lib.hid (hx1.grew v)
      have hz1 := hx1.size
      clear hx1 b0 b1 b2 b3 b4 b5 bf
      simp only [tokV, nameT]
      go_wp2_with (at_builtin; refine wpList_append_tok rfl _ _ rfl base _ _ [nameT wNot] rfl HOW.out _ 1 1 rfl ?c0 ?c1 rfl ?c2 ?c3 ?c4 ?_)
      case c0 => rfl
      case c1 => rfl
      case c2 => omega
      case c3 => omega
      case c4 => omega
      intro v2 w2 hown2 hgrow2
      have HO1 := Lib.hid (show OwnT w2 base (l ++ preT e.op) v2 by rw [HPR.out]; exact hown2)
      have HG1 := Lib.hid (HGW.out.trans hgrow2)
      clear hown2 hgrow2 HOW HGW
      go_wp2_with fail
      go_meet
      case rel => exact ⟨HO1.out, HG1.out⟩
    · have t6 : (e.op == 6) = false := by simp [h6]
      have HPR := Lib.hid (show preT e.op = [] by rw [preT, if_neg h6])
      clear h6
      go_wp2_with fail
      go_meet
      case rel => exact ⟨by rw [HPR.out, List.append_nil]; exact HO.out, Grew.refl _ v⟩
  case rest =>
  obtain ⟨hcut1, hcut2⟩ := hcut
  have HO1 := Lib.hid hcut1
  have HG1 := Lib.hid hcut2
  clear hcut1 hcut2 b0 b1 b2 b3 b4 b5 bf
  have hz1 := HG1.out.1.size
  go_wp2_with fail
  go_loopg [0, 6] na (fun g u i wr => ∃ k : Nat, k ≤ na ∧ g = na - k ∧ i = .int .i64 k ∧ OwnT wr base (l ++ preT e.op ++ tokArgs e.op (e.args.take k)) u ∧ Grew wb v wr u)
  case atStart => exact ⟨0, by omega, rfl, rfl, by simpa [tokArgs] using HO1.out, HG1.out⟩
  case round =>
    clear HO1 HG1 t1 t2 t3 t4 t5 hz1
    obtain ⟨k, hk, hgk, rfl, ho, hg⟩ := hrel
    have HGN := Lib.hid hgk
    have HOk := Lib.hid ho
    have HGk := Lib.hid hg
    have hbx := hg.1.blk HBX.out HNR.out
    have hbl := blk_lt hbx
    have hbn := hg.notMem (blk_lt HBX.out) HNR.out
    obtain ⟨b0, b1, b2, b3, b4, b5, bf⟩ := blk6 hbx
    have HBk := Lib.hid hbx
    have HBN := Lib.hid hbn
    have hzk := hg.1.size
    clear ho hg hbx hbn hgk
    by_cases hlt : k < na
    · have hlt' : k < e.args.length := by have := HNA.out; omega
      have t1 : decide ((k : Int) < (na : Int)) = true := by simp; omega
      obtain ⟨bb, off, rfl, aw1, nw1, cw1, aa1, na1, ca1, h0, h1, h2, h3, h4, h5, h6⟩ := ExsD.at e.args _ (ExsD.mono HGk.out.sub e.args _ HXS.out) k hlt'
      have H6 := Lib.hid h6
      replace h0 := mask_in h0
      replace h1 := mask_in h1
      replace h2 := mask_in h2
      replace h3 := mask_in h3
      replace h4 := mask_in h4
      replace h5 := mask_in h5
      have hsz := sizes_take_succ e.args k hlt'
      have hsl := sizes_take_le e.args (k + 1)
      have hk1 : e.args[k].size ≤ m := by omega
      have HSN := Lib.hid (show tokArgs e.op (e.args.take (k + 1)) = tokArgs e.op (e.args.take k) ++ ((if k = 0 then [] else [nameT (wordOf e.op)]) ++ argT e.op e.args[k]) by
        have e1 : e.args.take (k + 1) = e.args.take k ++ [e.args[k]] := by simp
        rw [e1, tokArgs_snoc, List.length_take, Nat.min_eq_left (by omega)]; rfl)
      have HTL := Lib.hid (tokArgs_take e.op e.args (k + 1))
      have HLEN := Lib.hid (show (l ++ preT e.op ++ tokArgs e.op (e.args.take k)).length + (if k = 0 then 0 else 1) + (argT e.op e.args[k]).length ≤ 10000 by
        have a1 := HTL.out
        have a2 := HLL.out
        rw [HSN.out] at a1
        simp only [List.length_append] at a1 ⊢
        by_cases hk0 : k = 0
        · rw [if_pos hk0] at a1 ⊢; simp only [List.length_nil] at a1; omega
        · rw [if_neg hk0] at a1 ⊢; simp only [List.length_cons, List.length_nil] at a1; omega)
      clear h6 hsz hsl
      go_upto_if 85 with fail
      have HXA := Lib.hid ((Ext.refl wr).alloc (.cells #[.int .i64 e.args[k].op, .string e.args[k].name, .slice aw1 nw1 cw1, .int .i64 e.args[k].lo, .int .i64 e.args[k].hi, .slice aa1 na1 ca1] 28))
      have HBA := Lib.hid (alloc_new wr (.cells #[.int .i64 e.args[k].op, .string e.args[k].name, .slice aw1 nw1 cw1, .int .i64 e.args[k].lo, .int .i64 e.args[k].hi, .slice aa1 na1 ca1] 28))
      have hza : (wr.alloc (.cells #[.int .i64 e.args[k].op, .string e.args[k].name, .slice aw1 nw1 cw1, .int .i64 e.args[k].lo, .int .i64 e.args[k].hi, .slice aa1 na1 ca1] 28)).heap.size = wr.heap.size + 1 := by simp
      have HZA := Lib.hid hza
      clear h0 h1 h2 h3 h4 h5 b0 b1 b2 b3 b4 b5 bf hza
      generalize wr.alloc (.cells #[.int .i64 e.args[k].op, .string e.args[k].name, .slice aw1 nw1 cw1, .int .i64 e.args[k].lo, .int .i64 e.args[k].hi, .slice aa1 na1 ca1] 28) = wa at *
      have HOA := Lib.hid (HOk.out.ext HXA.out)
      have HGA := Lib.hid (HGk.out.trans (HXA.out.grew _))
      have H6A := Lib.hid (H6.out.mono (HXA.out.grew _).sub)
      have HNRA := Lib.hid (show wr.heap.size ∉ rowOf u0 from fun h => by have := (HOk.out.lt h).2; omega)
      have hza : wr.heap.size + 1 = wa.heap.size := HZA.out.symm
      have hzb : wb.heap.size ≤ wa.heap.size := HGA.out.1.size
      clear HOk HGk H6
      obtain ⟨L, hL⟩ : ∃ L, L = l ++ preT e.op ++ tokArgs e.op (e.args.take k) := ⟨_, rfl⟩
      rw [← hL] at HOA HLEN
      have HL := Lib.hid hL
      clear hL
      have hLEN : L.length + (if k = 0 then 0 else 1) + (argT e.op e.args[k]).length ≤ 10000 := HLEN.out
      have hLEN1 : L.length + (argT e.op e.args[k]).length ≤ 10000 := by omega
      have HLEN2 := Lib.hid hLEN
      clear hLEN
      go_cut [0] (fun s0 wx => OwnT wx base (L ++ (if k = 0 then [] else [nameT (wordOf e.op)])) s0 ∧ Grew wa u0 wx s0)
      case first =>
        by_cases hk0 : k = 0
        · have HK0 := Lib.hid hk0
          have t2 : decide (0 < (k : Int)) = false := by simp; omega
          have t3 : decide (0 < k) = false := by simp; omega
          have p0 : ¬ 0 < k := by omega
          clear hk0
          go_wp2_with fail
          go_meet
          case rel => exact ⟨by rw [if_pos HK0.out, List.append_nil]; exact HOA.out, Grew.refl _ _⟩
        · have HK0 := Lib.hid hk0
          have t2 : decide (0 < (k : Int)) = true := by simp; omega
          have t3 : decide (0 < k) = true := by simp; omega
          have p0 : 0 < k := by omega
          clear hk0
          go_wp2_with fail
          refine (nameToken_calls _ _).mono ?_
          rintro r w1 ⟨rfl, hx1⟩
          have HOW := Lib.hid (HOA.out.ext hx1)
          have HGW := Lib.hid (hx1.grew u0)
          have hz1 := hx1.size
          clear hx1
          simp only [tokV, nameT]
          go_wp2_with (at_builtin; refine wpList_append_tok rfl _ _ rfl base _ _ [nameT (wordOf e.op)] rfl HOW.out _ 1 1 rfl ?c0 ?c1 rfl ?c2 ?c3 ?c4 ?_)
          case c0 => rfl
          case c1 => rfl
          case c2 => omega
          case c3 => omega
          case c4 => omega
          intro v2 w2 hown2 hgrow2
          have HO1 := Lib.hid (show OwnT w2 base (L ++ (if k = 0 then [] else [nameT (wordOf e.op)])) v2 by rw [if_neg HK0.out]; exact hown2)
          have HG1 := Lib.hid (HGW.out.trans hgrow2)
          clear hown2 hgrow2 HOW HGW
          go_wp2_with fail
          go_meet
          case rel => exact ⟨HO1.out, HG1.out⟩
      case rest =>
      obtain ⟨hcut1, hcut2⟩ := hcut
      have hbC := hcut2.1.blk HBA.out HNRA.out
      have hblC := blk_lt hbC
      have HNRC := Lib.hid (hcut2.notMem (by omega) HNRA.out)
      have hbE := (HGA.out.trans hcut2).1.blk HBX.out HNR.out
      obtain ⟨a0, a1, a2, a3, a4, a5, af⟩ := blk6 hbC
      obtain ⟨b0, b1, b2, b3, b4, b5, bf⟩ := blk6 hbE
      have HBC := Lib.hid hbC
      have HBE := Lib.hid hbE
      have HO2 := Lib.hid hcut1
      have HG2 := Lib.hid hcut2
      have hzc := hcut2.1.size
      have H6C := Lib.hid (H6A.out.mono hcut2.sub)
      have HLL2 := Lib.hid (show (L ++ (if k = 0 then [] else [nameT (wordOf e.op)])).length + (argT e.op e.args[k]).length ≤ 10000 by
        have := HLEN2.out
        rw [List.length_append]
        by_cases hk0 : k = 0
        · rw [if_pos hk0] at this ⊢; simp only [List.length_nil]; omega
        · rw [if_neg hk0] at this ⊢; simp only [List.length_cons, List.length_nil]; omega)
      clear hcut1 hcut2 hbC hbE H6A HOA
      obtain ⟨L2, hL2⟩ : ∃ L2, L2 = L ++ (if k = 0 then [] else [nameT (wordOf e.op)]) := ⟨_, rfl⟩
      rw [← hL2] at HO2 HLL2
      have HL2 := Lib.hid hL2
      clear hL2
      go_upto_region 23 with fail
      go_cut [103] (fun s103 wx => s103 = .bool (paren e.op e.args[k].op) ∧ wc = wx)
      case first =>
        by_cases c8 : e.args[k].op = 8
        · have t8 : (e.args[k].op == 8) = true := by simp [c8]
          have HP := Lib.hid (show paren e.op e.args[k].op = true by simp [paren, c8])
          clear c8
          go_wp2_with fail
          go_meet
          case rel => exact ⟨by rw [HP.out], rfl⟩
        · have t8 : (e.args[k].op == 8) = false := by simp [c8]
          by_cases c7 : e.args[k].op = 7
          · have t7 : (e.args[k].op == 7) = true := by simp [c7]
            by_cases ce : e.op = 8
            · have te : (e.op != 8) = false := by simp [ce]
              have HP := Lib.hid (show paren e.op e.args[k].op = false by simp [paren, c8, ce])
              clear c8 c7 ce
              go_wp2_with fail
              go_meet
              case rel => exact ⟨by rw [HP.out], rfl⟩
            · have te : (e.op != 8) = true := by simp [ce]
              have HP := Lib.hid (show paren e.op e.args[k].op = true by simp [paren, c7, ce])
              clear c8 c7 ce
              go_wp2_with fail
              go_meet
              case rel => exact ⟨by rw [HP.out], rfl⟩
          · have t7 : (e.args[k].op == 7) = false := by simp [c7]
            have HP := Lib.hid (show paren e.op e.args[k].op = false by simp [paren, c8, c7])
            clear c8 c7
            go_wp2_with fail
            go_meet
            case rel => exact ⟨by rw [HP.out], rfl⟩
      case rest =>
      obtain ⟨rfl, rfl⟩ := hcut
      cases hp : paren e.op e.args[k].op with
      | true =>
        have HAT := Lib.hid (show argT e.op e.args[k] = [markT 40] ++ tokE e.args[k] ++ [markT 41] by rw [argT, if_pos hp])
        have hl2 : L2.length + 2 + (tokE e.args[k]).length ≤ 10000 := by have := HLL2.out; rw [HAT.out] at this; simp at this; omega
        clear hp b0 b1 b2 b3 b4 b5 bf a0 a1 a2 a3 a4 a5 af
        go_wp2_with fail
        refine wp_region_growL (m := 9) [8] (TokG [3, 5, 8] wc u0) (TokE [3, 5, 8]) (TokR base wc u0 (fPar u0 (exV e.args[k].op e.args[k].name aw1 nw1 cw1 e.args[k].lo e.args[k].hi aa1 na1 ca1) L2 e.args[k])) (by kernel_rfl) (by kernel_rfl) ⟨(Chg.refl _ _).drew, fun _ => (Ext.refl wc).drew⟩ (tokR_keeps (by kernel_rfl)) ?_ ?_
        · intro i o hi ho L vs W hiL hnc hG hd ρ hρ
          have hi' : i = 0 ∨ i = 1 ∨ i = 2 ∨ i = 3 ∨ i = 4 ∨ i = 5 ∨ i = 6 ∨ i = 7 ∨ i = 8 := by omega
          clear hi
          have o0 : ρ (.tmp 0) = u0 := hρ.out 0 rfl
          have o7 : ρ (.tmp 7) = .pointer (some ⟨wr.heap.size, 0, none⟩) := hρ.out 7 rfl
          have i0 := hρ.ins 0 104 (by omega) rfl (Nat.le_of_ble_eq_true rfl)
          have i1 := hρ.ins 1 105 (by omega) rfl (Nat.le_of_ble_eq_true rfl)
          have i2 := hρ.ins 2 106 (by omega) rfl (Nat.le_of_ble_eq_true rfl)
          have i3 := hρ.ins 3 107 (by omega) rfl (Nat.le_of_ble_eq_true rfl)
          have i4 := hρ.ins 4 108 (by omega) rfl (Nat.le_of_ble_eq_true rfl)
          have i5 := hρ.ins 5 109 (by omega) rfl (Nat.le_of_ble_eq_true rfl)
          have i6 := hρ.ins 6 110 (by omega) rfl (Nat.le_of_ble_eq_true rfl)
          have i7 := hρ.ins 7 111 (by omega) rfl (Nat.le_of_ble_eq_true rfl)
          have hcs := hρ.const
          have hfn := hρ.func
          clear hρ
          have hbW := hG.1.blk HBC.out HNRC.out
          obtain ⟨a0, a1, a2, a3, a4, a5, af⟩ := blk6 hbW
          have hwz := hG.1.size
          have HG := Lib.hid hG
          clear hG hbW
          rcases hi' with rfl | rfl | rfl | rfl | rfl | rfl | rfl | rfl | rfl
          · cases ho
            unfold GivesOp
            go_simp
            exact ⟨Or.inr (Ext.refl _), HG.out.ext (Ext.refl _) _, rfl⟩
          · cases ho
            unfold GivesOp
            go_simp
            refine (markToken_calls _ _).mono ?_
            rintro q W' ⟨rfl, hx⟩
            exact ⟨_, rfl, Or.inr hx, HG.out.ext hx _, rfl⟩
          · cases ho
            have h1 : vs 1 = _ := hd ⟨1, .data⟩ (by simp) rfl
            rw [h1] at i1
            unfold tokV markT at i1
            unfold GivesOp
            go_simp
            exact ⟨Or.inr ((Ext.refl _).alloc _), HG.out.ext ((Ext.refl _).alloc _) _, W.heap.size, rfl, alloc_new W _⟩
          · cases ho
            have h0 : vs 0 = _ := hd ⟨0, .data⟩ (by simp) rfl
            obtain ⟨x0, h6, hx0⟩ := hd ⟨2, .data⟩ (by simp) rfl
            rw [h0] at i0
            rw [h6] at i2
            have hxW := HG.out.2 (tok_before (by decide +kernel) hiL hnc)
            refine gives_append_tok _ _ base u0 L2 _ i0 (HO2.out.ext hxW) x0 i2 hx0 (by simp) (by simp; omega) (by omega) ?_
            intro u' w' ho' hg'
            exact ⟨Or.inl (by simp), TokG.grow (hxW.grew u0) hg' (by simp), ho', (hxW.grew u0).trans hg'⟩
          · cases ho
            unfold GivesOp
            go_simp
            exact ⟨Or.inr (Ext.refl _), HG.out.ext (Ext.refl _) _, rfl⟩
          · cases ho
            obtain ⟨ho7, hg7⟩ := hd ⟨3, .data⟩ (by simp) rfl
            have h9 : vs 4 = _ := hd ⟨4, .data⟩ (by simp) rfl
            rw [h9] at i4
            have HO7 := Lib.hid ho7
            have HG7 := Lib.hid hg7
            clear ho7 hg7
            generalize vs 3 = u7 at *
            unfold GivesOp
            go_simp
            refine (IH.out e.args[k] _ u7 base W _ hk1 (H6C.out.mono HG7.out.sub) HO7.out (by omega) (by simp; omega)).mono ?_
            rintro q W' ⟨u', rfl, ho', hg'⟩
            exact ⟨_, rfl, Or.inl (by simp), TokG.grow HG7.out hg' (by simp), ho', HG7.out.trans hg'⟩
          · cases ho
            unfold GivesOp
            go_simp
            refine (markToken_calls _ _).mono ?_
            rintro q W' ⟨rfl, hx⟩
            exact ⟨_, rfl, Or.inr hx, HG.out.ext hx _, rfl⟩
          · cases ho
            have h6 : vs 6 = _ := hd ⟨6, .data⟩ (by simp) rfl
            rw [h6] at i6
            unfold tokV markT at i6
            unfold GivesOp
            go_simp
            exact ⟨Or.inr ((Ext.refl _).alloc _), HG.out.ext ((Ext.refl _).alloc _) _, W.heap.size, rfl, alloc_new W _⟩
          · cases ho
            obtain ⟨ho7, hg7⟩ := hd ⟨5, .data⟩ (by simp) rfl
            obtain ⟨x0, h6, hx0⟩ := hd ⟨7, .data⟩ (by simp) rfl
            rw [h6] at i7
            refine gives_append_tok _ _ base (vs 5) _ _ i5 ho7 x0 i7 hx0 (by simp) (by simp; omega) (by omega) ?_
            intro u' w' ho' hg'
            exact ⟨Or.inl (by simp), TokG.grow hg7 hg' (by simp), ho', hg7.trans hg'⟩
        · intro L' vs W _ hG hR
          rw [if_neg (by decide +kernel)]
          obtain ⟨ho', hg'⟩ := hR 8 (by simp) (by omega)
          have HO3 := Lib.hid ho'
          have HG3 := Lib.hid ((HGA.out.trans HG2.out).trans hg')
          clear hG hR ho' hg'
          unfold wpOp
          simp only [acts, dstAt, List.range, List.range.loop, List.foldl_cons, List.foldl_nil]
          go_simp
          refine Or.inl ?_
          go_wp2_with fail
          go_roundg (na - (k + 1))
          case measure => have := HGN.out; omega
          case rel => exact ⟨k + 1, by omega, rfl, by go_num, by rw [HSN.out, HAT.out, ← List.append_assoc, ← List.append_assoc, ← HL.out, ← HL2.out]; simpa using HO3.out, HG3.out⟩
      | false =>
        have HAT := Lib.hid (show argT e.op e.args[k] = tokE e.args[k] by rw [argT, if_neg (by simp [hp])])
        have hl2 : L2.length + (tokE e.args[k]).length ≤ 10000 := by have := HLL2.out; rw [HAT.out] at this; omega
        clear hp b0 b1 b2 b3 b4 b5 bf
        go_wp2_with fail
        refine (IH.out e.args[k] L2 _ base _ _ hk1 H6C.out HO2.out (by omega) hl2).mono ?_
        rintro r w1 ⟨u', rfl, ho', hg'⟩
        have HO3 := Lib.hid ho'
        have HG3 := Lib.hid ((HGA.out.trans HG2.out).trans hg')
        clear ho' hg' a0 a1 a2 a3 a4 a5 af
        go_wp2_with fail
        go_roundg (na - (k + 1))
        case measure => have := HGN.out; omega
        case rel => exact ⟨k + 1, by omega, rfl, by go_num, by rw [HSN.out, HAT.out, ← List.append_assoc, ← List.append_assoc, ← HL.out, ← HL2.out]; exact HO3.out, HG3.out⟩
    · have HE2 := Lib.hid (show e.args.take k = e.args from List.take_of_length_le (by have := HNA.out; omega))
      have t1 : decide ((k : Int) < (na : Int)) = false := by simp; omega
      go_wp2_with fail
      go_ret
      exact ⟨_, rfl, by rw [HE.out, ← List.append_assoc]; rw [HE2.out] at HOk; exact HOk.out, (HX.out.grew v).trans HGk.out⟩

theorem tokens_calls (m : Nat) : m ≤ 1000000000 → TokensDo m := by
  induction m with
  | zero => intro _ e l v base w ev h; have := size_pos e; omega
  | succ m ih =>
    intro hm e l v base w ev hs he ho hb hl
    by_cases h1 : e.op = 1
    · exact tokens_true e l v base w ev he ho hb hl h1
    by_cases h2 : e.op = 2
    · exact tokens_false e l v base w ev he ho hb hl h2
    by_cases h3 : e.op = 3
    · exact tokens_name e l v base w ev he ho hb hl h3
    by_cases h4 : e.op = 4
    · exact tokens_in e l v base w ev he ho hb hl h4
    by_cases h5 : e.op = 5
    · exact tokens_btw e l v base w ev he ho hb hl h5
    exact tokens_args m (ih (by omega)) e l v base w ev hs (by omega) he ho hb hl ⟨h1, h2, h3, h4, h5⟩
end Go.Proofs.YtaepiiediblleaaGreatDoor
