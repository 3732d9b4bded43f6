/-
  Texts of the claim, joined: Grow2, RTok1, Build, Text1, Parse5, Text2.
-/
import Derived.Test.YtaepiiediblleaaGreatDoorBa10
import Derived.Test.YtaepiiediblleaaGreatDoorBa07
import Derived.BigFrame
import Derived.Deep.AppendLies
import Derived.Test.YtaepiiediblleaaGreatDoorBa06
import Derived.Lib.Builder
import Derived.Lib.AppendStr
import Derived.Lib.UnsafeStr
import Derived.Laws.Externs
import Derived.Test.YtaepiiediblleaaGreatDoorBa09
namespace Go.Proofs.YtaepiiediblleaaGreatDoor
open Go.RowKit

/-- append, as one step of a region that makes memory. -/
theorem gives_append {t e : TypeId} {z : Value} {size bytes : Nat} (E : ElemT t e z size bytes) {ρ : Operand → Value} {W : World} {T : Value → World → Prop} {dst : Option Tmp} {ty : TypeId} {pos : String} {after : Array Edge} {guard : Option (Nat × Bool)}
    (s x : Operand) (base : Nat) (v : Value) (n : Nat) (xs : List Value) (hs : ρ s = v) (B m c : Nat) (news : List Value) (hx : ρ x = .slice (some ⟨B, 0, none⟩) m c) (hl : news.length = m * size) (h1 : ∀ u ∈ news, u.oneCell' = true) (hm : 0 < m) (hn : n + m ≤ 100000000) (hb : bytes ≤ 1000)
    (hown : W.ownsRow base e size v n xs) (hnews : ∀ j (h : j < news.length), W.cell? ⟨B, j, none⟩ = some news[j]) (hbase : base ≤ W.heap.size)
    (h : ∀ g cap w', w'.ownsRow base e size (.slice (some ⟨g, 0, none⟩) (n + m) cap) (n + m) (xs ++ news) → W.grownBy w' v.ownBlock → (v.ownBlock = some g ∨ g = W.heap.size) → g < w'.heap.size → T (.slice (some ⟨g, 0, none⟩) (n + m) cap) w') :
    GivesOp Tryz.prog { dst := dst, op := .call { callee := .builtin .append, args := #[s, x], argTypes := #[t, t] }, type := ty, pos := pos, after := after, guard := guard } ρ W T := by
  obtain ⟨i, hi, hz, hsz, hby⟩ := info_parts E.info
  obtain ⟨g, cap, w', hrun, h2, h3, h4, h5⟩ := run_append_lies (P := Tryz.prog) W t ty base e i z size bytes E.ht hi hz hsz hby E.hzs E.hsz v n xs hown ⟨B, 0, none⟩ m c news hl (by
      intro j u hu
      obtain ⟨hj, rfl⟩ := List.getElem?_eq_some_iff.1 hu
      have : (⟨B, 0, none⟩ : Addr).add j = ⟨B, j, none⟩ := by unfold Addr.add; split <;> simp_all
      rw [this]
      exact hnews j hj) h1 hm (by simp only [maxLen]; omega) (by
      calc (n + m) * bytes ≤ 100000000 * 1000 := Nat.mul_le_mul hn hb
        _ ≤ 140737488355328 := by omega) hbase _ rfl
  unfold GivesOp
  have he : execOp ρ { dst := dst, op := .call { callee := .builtin .append, args := #[s, x], argTypes := #[t, t] }, type := ty, pos := pos, after := after, guard := guard } = (do pure (.value (← Builtin.append_ #[t, t] ty #[v, .slice (some ⟨B, 0, none⟩) m c]))) := by
    rw [← hs, ← hx, BigFrame.execOp_builtin, BigFrame.builtin_append]; simp
  rw [he]
  simp only [Sem.run_bind, hrun]
  exact h g cap w' h2 h3 h4 h5

theorem alloc_at {w : World} {o : Obj} {n : Nat} (h : n = w.heap.size) : (w.alloc o).heap[n]? = some o := by subst h; exact alloc_new w o
end Go.Proofs.YtaepiiediblleaaGreatDoor

namespace Go.Proofs.YtaepiiediblleaaGreatDoor
open Go.RowKit

theorem nameToken_calls (s : ByteArray) (w : World) : Calls Tryz.prog 49 #[.string s] w (GivesE (tokV (nameT s)) w) := by
  go_enter Tryz.func49, Tryz.ntmps49
  go_wp2_with fail
  refine bodyPost_ret (v := tokV (nameT s)) (by simp [results, Tryz.results49, go_sem, tokV, nameT]) rfl ⟨rfl, ?_⟩
  exact (Ext.refl w).alloc _
theorem markToken_calls (c : UInt8) (w : World) : Calls Tryz.prog 51 #[.string ⟨#[c]⟩] w (GivesE (tokV (markT c)) w) := by
  go_enter Tryz.func51, Tryz.ntmps51
  go_wp2_with fail
  exact bodyPost_ret (v := tokV (markT c)) (by simp [results, Tryz.results51, go_sem, tokV, markT]) rfl ⟨rfl, (Ext.refl w).alloc _⟩
theorem numberToken_calls (n : Int) (w : World) : Calls Tryz.prog 52 #[.int .i64 n] w (GivesE (tokV (numT n)) w) := by
  go_enter Tryz.func52, Tryz.ntmps52
  go_wp2_with fail
  exact bodyPost_ret (v := tokV (numT n)) (by simp [results, Tryz.results52, go_sem, tokV, numT]) rfl ⟨rfl, (Ext.refl w).alloc _⟩

theorem mask_in {w : World} {M : List Nat} {p : Addr} {v : Value} (h : (mask w M).cell? p = some v) : w.cell? p = some v := by
  rw [mask_cell] at h
  split at h
  · cases h
  · exact h
/-- A row of tokens that the call owns. -/
def OwnT (w : World) (base : Nat) (l : List Tok) (v : Value) : Prop := w.ownsRow base 73 4 v l.length (l.flatMap tokCells)
/-- The row v has become v': the old one, or a new one; nothing else has changed. -/
def Grew (w : World) (v : Value) (w' : World) (v' : Value) : Prop := Chg (rowOf v) w w' ∧ ∀ k, v'.ownBlock = some k → v.ownBlock = some k ∨ w.heap.size ≤ k
theorem Grew.refl (w : World) (v : Value) : Grew w v w v := ⟨Chg.refl _ _, fun _ h => Or.inl h⟩
theorem Grew.trans {a b c : World} {u v x : Value} (h : Grew a u b v) (k : Grew b v c x) : Grew a u c x := by
  have hz := h.1.size
  refine ⟨h.1.trans k.1 fun y hy => ?_, fun y hy => ?_⟩
  · rcases h.2 y (mem_rowOf.1 hy) with h1 | h1
    · exact Or.inl (mem_rowOf.2 h1)
    · exact Or.inr h1
  · rcases k.2 y hy with h1 | h1
    · exact h.2 y h1
    · exact Or.inr (by omega)
theorem Ext.grew {w w' : World} (h : Ext w w') (v : Value) : Grew w v w' v := ⟨h.chg _, fun _ h => Or.inl h⟩
theorem Grew.sub {w w' : World} {v v' : Value} (h : Grew w v w' v') : Sub (mask w (rowOf v)) (mask w' (rowOf v')) := mask_sub_mask fun k hk hn => ⟨fun hm => by
    rcases h.2 k (mem_rowOf.1 hm) with h1 | h1
    · exact hn (mem_rowOf.2 h1)
    · omega, h.1.block k hk hn⟩
theorem OwnT.ext {w w' : World} {base : Nat} {l : List Tok} {v : Value} (h : OwnT w base l v) (he : Ext w w') : OwnT w' base l v := owns_ext h he
theorem OwnT.lt {w : World} {base : Nat} {l : List Tok} {v : Value} (h : OwnT w base l v) {k : Nat} (hk : k ∈ rowOf v) : base ≤ k ∧ k < w.heap.size := World.ownsRow.lt h k (mem_rowOf.1 hk)
def TokQ (base : Nat) (l : List Tok) (v : Value) (w : World) (e : Ending) (w' : World) : Prop := ∃ v', e = .returned v' ∧ OwnT w' base l v' ∧ Grew w v w' v'

/-- append of tokens that were just laid into a block of their own. -/
theorem wpList_append_tok {ops : Array Oper} {rest : List Oper} {o : Oper} {a : Act} {Q : Exit → Act → World → Prop} {X : World} {arr : Array Value} {tt : TypeId}
    (hgd : o.guard = none) (s x : Operand) (ho : o.op = .call { callee := .builtin .append, args := #[s, x], argTypes := #[22, 22] }) (base : Nat) (v : Value) (l ts : List Tok) (hs : a.eval s = v) (hown : OwnT X base l v)
    (B m c : Nat) (hx : a.eval x = .slice (some ⟨B, 0, none⟩) m c) (hB : B = X.heap.size) (harr : arr.toList = ts.flatMap tokCells) (hm : m = ts.length) (hm0 : 0 < m) (hn : l.length + m ≤ 100000000) (hbase : base ≤ X.heap.size)
    (h : ∀ v' w', OwnT w' base (l ++ ts) v' → Grew X v w' v' → wpList Tryz.prog ops Q rest (a.put o.dst v') w') : wpList Tryz.prog ops Q (o :: rest) a (X.alloc (.cells arr tt)) := by
  subst hB hm
  obtain ⟨i, hi, hz, hsz, hby⟩ := info_parts elemTok.info
  refine wpList_append_lies (X.alloc (.cells arr tt)) hgd s x 22 ho base 73 i _ 4 40 elemTok.ht hi hz hsz hby elemTok.hzs elemTok.hsz v l.length _ hs (World.ownsRow.alloc hown _) ⟨X.heap.size, 0, none⟩ ts.length c arr.toList hx ?_ ?_ ?_ hm0 (by simp only [maxLen]; omega) (by omega) (by simp; omega) _ rfl ?_
  · rw [harr, length_flatMap_of tokCells 4 (fun _ => rfl)]
  · intro j u hu
    have : (⟨X.heap.size, 0, none⟩ : Addr).add j = ⟨X.heap.size, j, none⟩ := by unfold Addr.add; split <;> simp_all
    rw [this, World.cell?_alloc_at _ _ _ _ rfl]
    simpa using hu
  · rw [harr]
    intro u hu
    obtain ⟨t, _, ht⟩ := List.mem_flatMap.1 hu
    simp only [tokCells, List.mem_cons, List.not_mem_nil, or_false] at ht
    rcases ht with rfl | rfl | rfl | rfl <;> rfl
  · intro g cap w' h2 h3 h4 h5
    refine h _ _ ?_ ⟨⟨h3.os, h3.tape, h3.output, ?_, fun k hk hne => ?_⟩, fun k hk => ?_⟩
    · unfold OwnT
      rw [List.length_append, List.flatMap_append, ← harr]
      exact h2
    · have := h3.size; simp at this; omega
    · rw [h3.block k (by simp; omega) (fun e => hne (mem_rowOf.2 e.symm))]
      exact Below.heap_alloc _ _ _ hk
    · simp only [Value.ownBlock] at hk
      injection hk with hk
      subst hk
      rcases h4 with h4 | h4
      · exact Or.inl h4
      · exact Or.inr (by simp at h4; omega)

theorem listedT_snoc (x : ByteArray) : (l : List ByteArray) → listedT (l ++ [x]) = listedT l ++ ((if l.length = 0 then [] else [markT 44]) ++ [nameT x])
  | [] => by simp [listedT]
  | [a] => by simp [listedT]
  | a :: b :: r => by
    have := listedT_snoc x (b :: r)
    simp only [List.cons_append, List.length_cons] at this ⊢
    simp only [listedT, this]
    simp
theorem listedT_len : (l : List ByteArray) → (listedT l).length ≤ 2 * l.length
  | [] => by simp [listedT]
  | [a] => by simp [listedT]
  | a :: b :: r => by have := listedT_len (b :: r); simp only [listedT, List.length_cons] at this ⊢; omega

set_option maxRecDepth 100000 in
set_option maxHeartbeats 1000000 in
theorem listed_calls (ws : List ByteArray) (l : List Tok) (v : Value) (base : Nat) (a : Option Addr) (n c : Nat) (w : World) (ho : OwnT w base l v) (hs : IsStrs (mask w (rowOf v)) ws a n c) (hb : base ≤ w.heap.size) (hl : l.length ≤ 10000) (hn : n ≤ 10000) :
    Calls Tryz.prog 50 #[v, .slice a n c] w (TokQ base (l ++ listedT ws) v w) := by
  have HO := Lib.hid ho
  have HS := Lib.hid hs
  have HN := Lib.hid hs.1
  clear ho hs
  go_enter Tryz.func50, Tryz.ntmps50
  go_wp2_with fail
  go_loopw [0, 5] (fun u i wr => ∃ k : Nat, k ≤ n ∧ i = .int .i64 k ∧ OwnT wr base (l ++ listedT (ws.take k)) u ∧ Grew w v wr u) (fun _ i _ => n - (intOf i).toNat)
  case atStart => exact ⟨0, by omega, rfl, by simpa [listedT] using HO.out, Grew.refl _ _⟩
  case round =>
    obtain ⟨k, hk, rfl, ho, hg⟩ := hrel
    have HO1 := Lib.hid ho
    have HG1 := Lib.hid hg
    clear ho hg
    by_cases hlt : k < n
    · have hlt' : k < ws.length := by have := HN.out; omega
      have t1 : decide ((k : Int) < (n : Int)) = true := by simp; omega
      obtain ⟨b, off, rfl, hcell⟩ := HS.out.2.2.2 k hlt'
      have hcell := HG1.out.sub _ _ hcell
      have HC := Lib.hid hcell
      have HL := Lib.hid (listedT_snoc ws[k] (ws.take k))
      have HT := Lib.hid (show ws.take (k + 1) = ws.take k ++ [ws[k]] by simp)
      have hlen := listedT_len (ws.take k)
      have hlen2 : (listedT (ws.take k)).length ≤ 20000 := by rw [List.length_take] at hlen; omega
      have hz1 := HG1.out.1.size
      clear hcell hlen
      by_cases hk0 : k = 0
      case' pos =>
        have HL1 := Lib.hid (show l ++ listedT (ws.take (k + 1)) = l ++ listedT (ws.take k) ++ [nameT ws[k]] by rw [HT.out, HL.out, List.length_take, if_pos (by omega)]; simp)
        have hLL : (l ++ listedT (ws.take k)).length ≤ 30001 := by rw [List.length_append]; omega
        have t2 : decide (0 < (k : Int)) = false := by simp; omega
        have t3 : decide (0 < k) = false := by simp; omega
        have HO2 := Lib.hid HO1.out
        have HG2 := Lib.hid HG1.out
        generalize l ++ listedT (ws.take k) = L2 at *
        clear HO1 HG1 HL HT hk0
      case' neg =>
        have HL1 := Lib.hid (show l ++ listedT (ws.take (k + 1)) = l ++ listedT (ws.take k) ++ [markT 44] ++ [nameT ws[k]] by rw [HT.out, HL.out, List.length_take, if_neg (by omega)]; simp)
        have hLL : (l ++ listedT (ws.take k) ++ [markT 44]).length ≤ 30001 := by rw [List.length_append, List.length_append]; simp; omega
        have t2 : decide (0 < (k : Int)) = true := by simp; omega
        have t3 : decide (0 < k) = true := by simp; omega
        generalize l ++ listedT (ws.take k) = L at *
        clear HL HT hk0
        go_wp2_with fail
        refine (markToken_calls 44 _).mono ?_
        rintro r w1 ⟨rfl, hx1⟩
        have HOW := Lib.hid (HO1.out.ext hx1)
        have HGW := Lib.hid (HG1.out.trans (hx1.grew _))
        have hz := hx1.size
        have HX1 := Lib.hid hx1
        simp only [tokV, markT]
        clear hx1
        go_wp2_with (at_builtin; refine wpList_append_tok rfl _ _ rfl base _ _ [markT 44] rfl HOW.out _ 1 1 rfl ?c0 ?c1 rfl ?c2 ?c3 ?c4 ?_)
        case c0 => rfl
        case c1 => rfl
        case c2 => omega
        case c3 => have := hLL; rw [List.length_append] at this; simp at this; omega
        case c4 => omega
        intro v2 w2 hown2 hgrow2
        have HO2 := Lib.hid hown2
        have HG2 := Lib.hid (HGW.out.trans hgrow2)
        have HC := Lib.hid (hgrow2.sub _ _ ((HX1.out.grew _).sub _ _ HC.out))
        clear hown2 hgrow2 HOW HGW HX1 HO1 HG1
        generalize L ++ [markT 44] = L2 at *
      all_goals
        have hcell := mask_in HC.out
        have hz2 := HG2.out.1.size
        clear HC
        go_wp2_with fail
        refine (nameToken_calls _ _).mono ?_
        rintro r w3 ⟨rfl, hx3⟩
        have HOW := Lib.hid (HO2.out.ext hx3)
        have HGW := Lib.hid (HG2.out.trans (hx3.grew _))
        have hz3 := hx3.size
        simp only [tokV, nameT]
        clear hx3 hcell
        go_wp2_with (at_builtin; refine wpList_append_tok rfl _ _ rfl base _ _ [nameT ws[k]] rfl HOW.out _ 1 1 rfl ?c0 ?c1 rfl ?c2 ?c3 ?c4 ?_)
        case c0 => rfl
        case c1 => rfl
        case c2 => omega
        case c3 => omega
        case c4 => omega
        intro v4 w4 hown4 hgrow4
        have HO4 := Lib.hid hown4
        have HG4 := Lib.hid (HGW.out.trans hgrow4)
        clear hown4 hgrow4 HOW HGW
        go_wp2_with fail
        go_round
        case rel => exact ⟨k + 1, by omega, rfl, by rw [HL1.out]; exact HO4.out, HG4.out⟩
        case measure => simp [intOf]; omega
    · have hkn : k = n := by omega
      subst hkn
      have t1 : decide ((k : Int) < (k : Int)) = false := by simp
      have HE := Lib.hid (show ws.take k = ws by rw [HN.out, List.take_length])
      go_wp2_with fail
      go_ret
      exact ⟨_, rfl, by rw [← HE.out]; exact HO1.out, HG1.out⟩
end Go.Proofs.YtaepiiediblleaaGreatDoor

namespace Go.Proofs.YtaepiiediblleaaGreatDoor
open Go.RowKit

theorem sizeBld : (Tryz.prog.info? 104).map (·.size) = some 2 := by kernel_rfl
theorem liesBld : liesAt Tryz.prog Tryz.prog.depth 104 (2 / Tryz.prog.cellsOf 104) 0 104 1 = true := by kernel_rfl
theorem uBldP : Tryz.prog.underlying 101 = some (.pointer 104) := by kernel_rfl
theorem uUns : Tryz.prog.underlying 139 = some .unsafePointer := by kernel_rfl
theorem uBytes : Tryz.prog.underlying 102 = some (.slice 5) := by kernel_rfl
theorem uByte5 : Tryz.prog.underlying 5 = some (.int .u8) := by kernel_rfl
theorem infoByte : (Tryz.prog.info? 5).map (fun i => (i.zero, i.size, i.bytes)) = some (some (.int .u8 0), 1, 1) := by kernel_rfl
theorem uStr9 : Tryz.prog.underlying 9 = some .string := by kernel_rfl

set_option maxHeartbeats 1000000 in
set_option maxRecDepth 100000 in
theorem copyCheck_used (b : Nat) (w : World) (h0 : w.cell? ⟨b, 0, none⟩ = some (.pointer (some ⟨b, 0, none⟩))) :
    Calls Tryz.prog 95 #[.pointer (some ⟨b, 0, none⟩)] w fun e w' => e = .returned (.tuple #[]) ∧ w' = w := by
  obtain ⟨j, hj, _⟩ := Option.map_eq_some_iff.1 sizeBld
  go_enter Tryz.func95, Tryz.ntmps95
  go_wp2_with fail
  rw [Lib.run_neq_ptr_same w _ uBldP hj]
  go_wp2_with fail
  go_end0
  exact ⟨rfl, rfl⟩

set_option maxHeartbeats 1000000 in
set_option maxRecDepth 100000 in
theorem copyCheck_fresh (b : Nat) (w : World) (h0 : w.cell? ⟨b, 0, none⟩ = some (.pointer none)) (hsh : w.shape? b = some (104, 2)) (hfz : w.frozen? ⟨b, 0, none⟩ = false) (_ : b < w.heap.size) :
    Calls Tryz.prog 95 #[.pointer (some ⟨b, 0, none⟩)] w fun e w' => e = .returned (.tuple #[]) ∧ w' = w.setCell ⟨b, 0, none⟩ (.pointer (some ⟨b, 0, none⟩)) := by
  obtain ⟨j, hj, hjs⟩ := Option.map_eq_some_iff.1 sizeBld
  go_enter Tryz.func95, Tryz.ntmps95
  go_wp2_with fail
  rw [Lib.run_to_unsafe w ⟨b, 0, none⟩ uBldP uUns hj (by rw [hjs]; decide) hsh (Nat.zero_lt_succ 1)]
  simp only [Result.andThen]
  rw [Oper.upon_value]
  go_wp2_with fail
  rw [run_callFunc_extern Tryz.func118 (by kernel_rfl) (by kernel_rfl) (by kernel_rfl) (e := Extern.AbiNoEscape.same) (by kernel_rfl)]
  rw [Lib.run_noEscape]
  simp only [Result.andThen]
  rw [Oper.upon_value]
  go_wp2_with fail
  rw [Lib.run_from_unsafe w ⟨b, 0, none⟩ uUns uBldP hj hsh liesBld]
  simp only [Result.andThen]
  rw [Oper.upon_value]
  go_wp2_with fail
  go_end0
  exact ⟨rfl, rfl⟩

theorem copyCheck_calls (B b : Nat) (bs : List Value) (w : World) (h : Lib.IsBuilder 104 5 B b bs w) :
    Calls Tryz.prog 95 #[.pointer (some ⟨b, 0, none⟩)] w fun e w' => e = .returned (.tuple #[]) ∧ (Lib.BuilderAt 104 5 B b (.pointer (some ⟨b, 0, none⟩)) bs w' ∧ Below B w w') := by
  rcases h with h | h
  · refine (copyCheck_fresh b w h.cell0 h.shape h.frozen0 h.lt).mono ?_
    rintro e w' ⟨rfl, rfl⟩
    exact ⟨rfl, h.used _, (Below.refl B w).setCell (p := ⟨b, 0, none⟩) h.1 _⟩
  · refine (copyCheck_used b w h.cell0).mono ?_
    rintro e w' ⟨rfl, rfl⟩
    exact ⟨rfl, h, Below.refl B _⟩

set_option maxHeartbeats 2000000 in
set_option maxRecDepth 100000 in
theorem writeByte_calls (B b : Nat) (bs : List Value) (c : Int) (w : World) (h : Lib.IsBuilder 104 5 B b bs w) (hlen : bs.length + 1 ≤ 140737488355328) (hBw : B ≤ w.heap.size) :
    Calls Tryz.prog 64 #[.pointer (some ⟨b, 0, none⟩), .int .u8 c] w fun e w' => e = .returned .nilIface ∧ (Lib.BuilderAt 104 5 B b (.pointer (some ⟨b, 0, none⟩)) (bs ++ [.int .u8 c]) w' ∧ Below B w w') := by
  obtain ⟨i0, hi, hz0, hz1, hz2⟩ := info_parts infoByte
  go_enter Tryz.func64, Tryz.ntmps64
  go_wp2_with fail
  refine (copyCheck_calls B b bs _ h).mono ?_
  rintro e w1 ⟨rfl, h1, hb1⟩
  have hlt := h1.lt
  obtain ⟨hB, v, hbk, hown, hne⟩ := h1
  have c0 : w1.cell? ⟨b, 0, none⟩ = some (.pointer (some ⟨b, 0, none⟩)) := by rw [Lib.cell_of_heap hbk]; rfl
  have c1 : w1.cell? ⟨b, 1, none⟩ = some v := by rw [Lib.cell_of_heap hbk]; rfl
  have HOW := Lib.hid hown
  have HNE := Lib.hid hne
  have HBK := Lib.hid hbk
  have HB1 := Lib.hid hb1
  have hz1' := hb1.size
  clear h hown hne hbk hb1
  go_wp2_with (at_builtin; refine wpList_append_own _ rfl _ _ 102 rfl B 5 i0 (.int .u8 0) 1 1 uBytes hi hz0 hz1 hz2 rfl (by decide) _ _ _ rfl (HOW.out.alloc _) ⟨w1.heap.size, 0, none⟩ 1 1 [.int .u8 c] rfl rfl ?c1 ?c2 ?c3 ?c4 ?c5 ?_)
  case c1 =>
    intro j u hj
    match j, hj with
    | 0, hj => simp at hj; subst hj; simp [Addr.add]
  case c2 => intro u hu; simp at hu; subst hu; rfl
  case c3 => unfold maxLen; omega
  case c4 => omega
  case c5 => simp; omega
  intro v' w2 hown' hgrow _
  have hb2 : w2.heap[b]? = some (.cells #[.pointer (some ⟨b, 0, none⟩), v] 104 (0, 0)) := by
    rw [hgrow.block b (by simp; omega) (fun e => HNE.out e.symm)]
    exact blk_alloc HBK.out
  have d0 : w2.cell? ⟨b, 0, none⟩ = some (.pointer (some ⟨b, 0, none⟩)) := by rw [Lib.cell_of_heap hb2]; rfl
  have d1 : w2.cell? ⟨b, 1, none⟩ = some v := by rw [Lib.cell_of_heap hb2]; rfl
  have f1 : w2.frozen? ⟨b, 1, none⟩ = false := Lib.frozen_of_heap hb2 1
  have hl2 := blk_lt hb2
  obtain ⟨g, cap, rfl⟩ : ∃ g cap, v' = .slice (some ⟨g, 0, none⟩) (bs.length + 1) cap := by
    rcases hown'.2 with ⟨_, h0⟩ | ⟨g, cap, cur, hv, _⟩
    · omega
    · exact ⟨g, cap, hv⟩
  have HO2 := Lib.hid hown'
  have HG2 := Lib.hid hgrow
  have HB2 := Lib.hid hb2
  clear hown' hgrow hb2 c0 c1
  go_wp2_with fail
  go_ret
  refine ⟨rfl, ?_, ?_⟩
  · exact Lib.BuilderAt.put (T := 104) (e := 5) hB HB2.out (bs' := bs ++ [.int .u8 c]) (by simpa using HO2.out) (by decide)
  · exact ((HB1.out.alloc (by omega) _).grown HG2.out (by simp; omega) (fun k hk => (HOW.out.lt k hk).1)).setCell (p := ⟨b, 1, none⟩) hB _

set_option maxHeartbeats 2000000 in
set_option maxRecDepth 100000 in
theorem writeString_calls (B b : Nat) (bs : List Value) (s : ByteArray) (w : World) (h : Lib.IsBuilder 104 5 B b bs w) (hlen : bs.length + s.size ≤ 140737488355328) (hBw : B ≤ w.heap.size) :
    Calls Tryz.prog 65 #[.pointer (some ⟨b, 0, none⟩), .string s] w fun e w' => e = .returned (.tuple #[.int .i64 s.size, .nilIface]) ∧ (Lib.BuilderAt 104 5 B b (.pointer (some ⟨b, 0, none⟩)) (bs ++ Lib.strCells s) w' ∧ Below B w w') := by
  obtain ⟨i0, hi, hz0, hz1, hz2⟩ := info_parts infoByte
  go_enter Tryz.func65, Tryz.ntmps65
  go_wp2_with fail
  refine (copyCheck_calls B b bs _ h).mono ?_
  rintro e w1 ⟨rfl, h1, hb1⟩
  have hlt := h1.lt
  obtain ⟨hB, v, hbk, hown, hne⟩ := h1
  have c0 : w1.cell? ⟨b, 0, none⟩ = some (.pointer (some ⟨b, 0, none⟩)) := by rw [Lib.cell_of_heap hbk]; rfl
  have c1 : w1.cell? ⟨b, 1, none⟩ = some v := by rw [Lib.cell_of_heap hbk]; rfl
  have HOW := Lib.hid hown
  have HNE := Lib.hid hne
  have HBK := Lib.hid hbk
  have HB1 := Lib.hid hb1
  have hz1' := hb1.size
  clear h hown hne hbk hb1
  go_wp2_with (at_builtin; refine Lib.wpList_append_own_string _ rfl _ _ 102 9 rfl B 5 i0 uBytes uStr9 hi hz0 hz1 hz2 _ _ _ rfl HOW.out s rfl ?c3 ?c4 ?c5 ?_)
  case c3 => unfold maxLen; omega
  case c4 => omega
  case c5 => omega
  intro v' w2 hown' hgrow _
  have hb2 : w2.heap[b]? = some (.cells #[.pointer (some ⟨b, 0, none⟩), v] 104 (0, 0)) := by
    rw [hgrow.block b hlt (fun e => HNE.out e.symm)]
    exact HBK.out
  have d0 : w2.cell? ⟨b, 0, none⟩ = some (.pointer (some ⟨b, 0, none⟩)) := by rw [Lib.cell_of_heap hb2]; rfl
  have d1 : w2.cell? ⟨b, 1, none⟩ = some v := by rw [Lib.cell_of_heap hb2]; rfl
  have f1 : w2.frozen? ⟨b, 1, none⟩ = false := Lib.frozen_of_heap hb2 1
  have hl2 := blk_lt hb2
  obtain ⟨ao, n', cap, rfl⟩ : ∃ ao n' cap, v' = .slice ao n' cap := by
    rcases hown'.2 with ⟨hv, _⟩ | ⟨g, cap, cur, hv, _⟩
    · exact ⟨_, _, _, hv⟩
    · exact ⟨_, _, _, hv⟩
  have HO2 := Lib.hid hown'
  have HG2 := Lib.hid hgrow
  have HB2 := Lib.hid hb2
  clear hown' hgrow hb2 c0 c1
  go_wp2_with fail
  go_ret2
  refine ⟨rfl, ?_, ?_⟩
  · exact Lib.BuilderAt.put (T := 104) (e := 5) hB HB2.out (bs' := bs ++ Lib.strCells s) (by simpa [Lib.strCells_length] using HO2.out) (by decide)
  · exact (HB1.out.grown HG2.out (by omega) (fun k hk => (HOW.out.lt k hk).1)).setCell (p := ⟨b, 1, none⟩) hB _
end Go.Proofs.YtaepiiediblleaaGreatDoor

namespace Go.Proofs.YtaepiiediblleaaGreatDoor

/-- These bytes stand in a text from an offset on. -/
def AtB (s : ByteArray) : Nat → List UInt8 → Prop
  | _, [] => True
  | i, c :: r => (∃ h : i < s.size, s[i] = c) ∧ AtB s (i + 1) r
theorem AtB.append {s : ByteArray} : (a b : List UInt8) → (i : Nat) → AtB s i (a ++ b) ↔ AtB s i a ∧ AtB s (i + a.length) b
  | [], b, i => by simp [AtB]
  | c :: r, b, i => by
    simp only [List.cons_append, AtB, AtB.append r b (i + 1), List.length_cons]
    rw [show i + 1 + r.length = i + (r.length + 1) by omega]
    exact and_assoc.symm
theorem AtB.get {s : ByteArray} : (b : List UInt8) → (i : Nat) → AtB s i b → ∀ j (hj : j < b.length), ∃ h : i + j < s.size, s[i + j] = b[j]
  | [], i, _, j, hj => by simp at hj
  | c :: r, i, h, 0, _ => by simpa using h.1
  | c :: r, i, h, j + 1, hj => by
    obtain ⟨h1, h2⟩ := AtB.get r (i + 1) h.2 j (by simpa using hj)
    have e : i + 1 + j = i + (j + 1) := by omega
    simp only [e] at h2
    exact ⟨by omega, by simpa using h2⟩
theorem AtB.of_get {s : ByteArray} : (b : List UInt8) → (i : Nat) → (∀ j (hj : j < b.length), ∃ h : i + j < s.size, s[i + j] = b[j]) → AtB s i b
  | [], i, _ => trivial
  | c :: r, i, h => by
    obtain ⟨g1, g2⟩ := h 0 (by simp)
    refine ⟨⟨by simpa using g1, by simpa using g2⟩, AtB.of_get r (i + 1) fun j hj => ?_⟩
    obtain ⟨h1, h2⟩ := h (j + 1) (by simpa using hj)
    have e : i + (j + 1) = i + 1 + j := by omega
    simp only [e] at h2
    exact ⟨by omega, by simpa using h2⟩
theorem AtB.le {s : ByteArray} : (b : List UInt8) → (i : Nat) → i ≤ s.size → AtB s i b → i + b.length ≤ s.size
  | [], i, hi, _ => by simpa using hi
  | c :: r, i, _, h => by
    obtain ⟨h1, _⟩ := h.1
    have := AtB.le r (i + 1) h1 h.2
    simp; omega
theorem atB_self (b : List UInt8) : AtB ⟨b.toArray⟩ 0 b := AtB.of_get b 0 fun j hj => by
  have h : 0 + j < (⟨b.toArray⟩ : ByteArray).size := by simp [ByteArray.size]; omega
  refine ⟨h, ?_⟩
  simp [ByteArray.getElem_eq_getElem_data]
theorem AtB.extract {s : ByteArray} {b : List UInt8} {i : Nat} (h : AtB s i b) (hi : i ≤ s.size) : s.extract i (i + b.length) = ⟨b.toArray⟩ := by
  have hle := AtB.le b i hi h
  apply ByteArray.ext
  apply Array.ext
  · rw [ByteArray.data_extract]
    simp only [Array.size_extract, List.size_toArray]
    have : s.data.size = s.size := rfl
    omega
  · intro j h1 h2
    obtain ⟨h3, h4⟩ := AtB.get b i h j (by simpa using h2)
    simp only [ByteArray.data_extract, Array.getElem_extract, List.getElem_toArray]
    rw [← h4]; rfl
theorem AtB.byte {s : ByteArray} {c : UInt8} {r : List UInt8} {i : Nat} (h : AtB s i (c :: r)) : byteAt s i = (c.toNat : Int) := by
  obtain ⟨h1, h2⟩ := h.1
  rw [byteAt_lt h1, h2]
theorem AtB.span {p : Int → Bool} {s : ByteArray} : (b : List UInt8) → (i : Nat) → AtB s i b → (∀ c ∈ b, p (c.toNat : Int) = true) → p (byteAt s (i + b.length)) = false → spanF p s (s.size - i) i = i + b.length
  | [], i, _, _, h => by
    simp only [List.length_nil, Nat.add_zero] at *
    by_cases hi : i < s.size
    · rw [byteAt_lt hi] at h; exact spanF_stop hi h
    · exact spanF_end hi
  | c :: r, i, h, hall, hend => by
    obtain ⟨⟨h1, h2⟩, h3⟩ := h
    have e : i + (c :: r).length = i + 1 + r.length := by simp; omega
    rw [e] at hend ⊢
    rw [spanF_step h1 (by rw [h2]; exact hall c (by simp)), AtB.span r (i + 1) h3 (fun x hx => hall x (List.mem_cons_of_mem _ hx)) hend]

/-- A word is read as one. -/
theorem tokenF_word {s t : ByteArray} {i : Nat} (hw : wordB t = true) (ha : AtB s i t.data.toList) (hi : i ≤ s.size) (hn : inWordB (byteAt s (i + t.data.toList.length)) = false) : tokenF s i = (⟨1, t, 0, i⟩, ((i + t.data.toList.length : Nat) : Int), 0) := by
  have hsp := AtB.span (p := inWordB) t.data.toList i ha (fun c hc => by
    simp only [wordB, Bool.and_eq_true, beq_iff_eq] at hw
    obtain ⟨j, hj, rfl⟩ := List.getElem_of_mem hc
    have hj' : j < t.size := by simpa using hj
    have := spanF_all inWordB t t.size 0 j hj' (by omega) (by rw [hw.2]; exact hj')
    simpa [ByteArray.getElem_eq_getElem_data] using this) hn
  have hex := ha.extract hi
  have et : (⟨t.data.toList.toArray⟩ : ByteArray) = t := by cases t; simp
  rw [et] at hex
  have hl : letterB (byteAt s i) = true := by
    have hw' := hw
    simp only [wordB, Bool.and_eq_true, bne_iff_ne] at hw'
    obtain ⟨⟨⟨⟨h0, _⟩, h1⟩, _⟩, _⟩ := hw'
    have h0' : 0 < t.size := by omega
    obtain ⟨h3, h4⟩ := AtB.get _ i ha 0 (by simpa using h0')
    rw [byteAt_lt h0'] at h1
    have h3' : i < s.size := by simpa using h3
    have h4' : s[i] = t[0] := by simpa [ByteArray.getElem_eq_getElem_data] using h4
    rw [byteAt_lt h3', h4']; exact h1
  rw [tokenF, if_pos hl, hsp, hex, if_pos hw]

/-- The digits of a number. -/
def digs : Nat → Nat → List UInt8
  | 0, _ => []
  | f + 1, n => if n < 10 then [UInt8.ofNat (48 + n)] else digs f (n / 10) ++ [UInt8.ofNat (48 + n % 10)]
/-- A number in decimal. -/
def decB (n : Int) : List UInt8 := if n < 0 then 45 :: digs 20 n.natAbs else digs 20 n.natAbs
def isDig (c : UInt8) : Prop := 48 ≤ c.toNat ∧ c.toNat ≤ 57
theorem isDig_of {n : Nat} (h : n < 10) : isDig (UInt8.ofNat (48 + n)) := by
  have : (UInt8.ofNat (48 + n)).toNat = 48 + n := by rw [UInt8.toNat_ofNat']; omega
  unfold isDig; omega
theorem digs_all : (f n : Nat) → ∀ c ∈ digs f n, isDig c
  | 0, n, c, h => by simp [digs] at h
  | f + 1, n, c, h => by
    rw [digs] at h
    split at h
    · rename_i hn; rw [List.mem_singleton.1 h]; exact isDig_of hn
    · rcases List.mem_append.1 h with h | h
      · exact digs_all f _ c h
      · rw [List.mem_singleton.1 h]; exact isDig_of (by omega)
def valD (n : Int) (b : List UInt8) : Int := b.foldl (fun a c => a * 10 + ((c.toNat : Int) - 48)) n
theorem valD_digs : (f n : Nat) → n < 10 ^ f → valD 0 (digs f n) = n
  | 0, n, h => by simp at h; simp [digs, valD, h]
  | f + 1, n, h => by
    rw [digs]
    split
    · rename_i hn
      have : (UInt8.ofNat (48 + n)).toNat = 48 + n := by rw [UInt8.toNat_ofNat']; omega
      simp only [valD, List.foldl_cons, List.foldl_nil, this]; omega
    · have h1 : n / 10 < 10 ^ f := by rw [Nat.pow_succ] at h; omega
      have ih := valD_digs f (n / 10) h1
      have : (UInt8.ofNat (48 + n % 10)).toNat = 48 + n % 10 := by rw [UInt8.toNat_ofNat']; omega
      unfold valD at *
      rw [List.foldl_append, ih]
      simp only [List.foldl_cons, List.foldl_nil, this]; omega
theorem valD_ge : (b : List UInt8) → (n : Int) → 0 ≤ n → (∀ c ∈ b, isDig c) → n ≤ valD n b
  | [], n, _, _ => by simp [valD]
  | c :: r, n, h, hall => by
    have hc := hall c (by simp)
    unfold isDig at hc
    have := valD_ge r (n * 10 + ((c.toNat : Int) - 48)) (by omega) (fun x hx => hall x (List.mem_cons_of_mem _ hx))
    simp only [valD, List.foldl_cons] at this ⊢
    omega
theorem digs_ne (f n : Nat) : digs (f + 1) n ≠ [] := by
  rw [digs]; split <;> simp
theorem digs_head : (f n : Nat) → 0 < n → n < 10 ^ f → ∃ c r, digs f n = c :: r ∧ c.toNat ≠ 48
  | 0, n, h, h2 => by simp at h2; omega
  | f + 1, n, h, h2 => by
    rw [digs]
    split
    · rename_i hn
      have : (UInt8.ofNat (48 + n)).toNat = 48 + n := by rw [UInt8.toNat_ofNat']; omega
      exact ⟨_, _, rfl, by omega⟩
    · obtain ⟨c, r, h3, h4⟩ := digs_head f (n / 10) (by omega) (by rw [Nat.pow_succ] at h2; omega)
      exact ⟨c, r ++ _, by rw [h3]; rfl, h4⟩
theorem decF_digits {s : ByteArray} : (b : List UInt8) → (k : Nat) → (n : Int) → AtB s k b → k + b.length = s.size → 0 ≤ n → (∀ c ∈ b, isDig c) → valD n b ≤ 17592186044416 → decF s (s.size - k) k n = some (valD n b)
  | [], k, n, _, hk, _, _, _ => by rw [decF_end (by simp at hk; omega)]; simp [valD]
  | c :: r, k, n, h, hk, hn, hall, hv => by
    obtain ⟨⟨h1, h2⟩, h3⟩ := h
    have hc := hall c (by simp)
    unfold isDig at hc
    have hr : ∀ x ∈ r, isDig x := fun x hx => hall x (List.mem_cons_of_mem _ hx)
    have hge := valD_ge r (n * 10 + ((c.toNat : Int) - 48)) (by omega) hr
    have e : valD n (c :: r) = valD (n * 10 + ((c.toNat : Int) - 48)) r := rfl
    rw [e] at hv ⊢
    rw [decF_step h1 (by rw [h2]; omega), h2]
    exact decF_digits r (k + 1) _ h3 (by simp at hk; omega) (by omega) hr hv
theorem numOf_digits (neg : Bool) {m : Nat} (hm : m ≤ 17592186044416) (h0 : neg = true → 0 < m) : numOf neg ⟨(digs 20 m).toArray⟩ = (if neg then -(m : Int) else m, 0) := by
  have hp : m < 10 ^ 20 := by omega
  have hat := atB_self (digs 20 m)
  have hsz : (⟨(digs 20 m).toArray⟩ : ByteArray).size = (digs 20 m).length := by simp [ByteArray.size]
  have hne : (digs 20 m).length ≠ 0 := fun h => digs_ne 19 m (List.eq_nil_of_length_eq_zero h)
  have hd := decF_digits (digs 20 m) 0 0 hat (by rw [hsz]; omega) (by omega) (digs_all 20 m) (by rw [valD_digs 20 m hp]; omega)
  rw [valD_digs 20 m hp] at hd
  rw [numOf, if_neg, hd]
  rintro (h | ⟨h1, h2⟩)
  · omega
  · rcases Nat.eq_zero_or_pos m with rfl | hpos
    · rcases h2 with h2 | h2
      · have := h0 h2; omega
      · rw [hsz] at h2; revert h2; decide
    · obtain ⟨c, r, h3, h4⟩ := digs_head 20 m hpos hp
      rw [h3] at hat h1
      rw [hat.byte] at h1
      exact h4 (by omega)
theorem toNat_inj {a b : UInt8} (h : a.toNat = b.toNat) : a = b := UInt8.toNat_inj.1 h
/-- A number is read as one. -/
theorem tokenF_number {s : ByteArray} {n : Int} {i : Nat} (h1 : -17592186044416 ≤ n) (h2 : n ≤ 17592186044416) (ha : AtB s i (decB n)) (hi : i ≤ s.size) (hn : inWordB (byteAt s (i + (decB n).length)) = false) : tokenF s i = (⟨2, ⟨#[]⟩, n, i⟩, ((i + (decB n).length : Nat) : Int), 0) := by
  have hnd : digitB (byteAt s (i + (decB n).length)) = false := by simp [inWordB] at hn; simp [hn]
  have hdig : ∀ c ∈ digs 20 n.natAbs, digitB (c.toNat : Int) = true := fun c hc => by have := digs_all _ _ c hc; unfold isDig at this; simp [digitB]; omega
  have hex := ha.extract hi
  obtain ⟨c, r, hcr⟩ : ∃ c r, digs 20 n.natAbs = c :: r := by
    cases h : digs 20 n.natAbs with
    | nil => exact absurd h (digs_ne 19 _)
    | cons c r => exact ⟨c, r, rfl⟩
  have hc : isDig c := digs_all 20 n.natAbs c (by rw [hcr]; simp)
  unfold isDig at hc
  by_cases hneg : n < 0
  · have e : decB n = 45 :: digs 20 n.natAbs := by rw [decB, if_pos hneg]
    rw [e] at ha hex hnd ⊢
    have hb := ha.byte
    have hsp := AtB.span (p := digitB) (digs 20 n.natAbs) (i + 1) ha.2 hdig (by simpa [Nat.add_assoc, Nat.add_comm 1] using hnd)
    have e2 : i + (45 :: digs 20 n.natAbs).length = i + 1 + (digs 20 n.natAbs).length := by simp; omega
    rw [e2] at hex ⊢
    have hnum : numberF (⟨(45 :: digs 20 n.natAbs).toArray⟩ : ByteArray) = (n, 0) := by
      have ha2 := atB_self (45 :: digs 20 n.natAbs)
      rw [numberF, if_pos (by rw [ha2.byte]; rfl)]
      have h3 := AtB.extract (s := ⟨(45 :: digs 20 n.natAbs).toArray⟩) (i := 1) ha2.2 (by simp [ByteArray.size])
      rw [show (⟨(45 :: digs 20 n.natAbs).toArray⟩ : ByteArray).size = 1 + (digs 20 n.natAbs).length by simp [ByteArray.size]; omega, h3, numOf_digits true (by omega) (by omega)]
      simp; omega
    rw [tokenF, if_neg (by rw [hb]; decide), if_pos (by rw [hb]; decide), hsp, hex, hnum, if_pos rfl]
  · have e : decB n = digs 20 n.natAbs := by rw [decB, if_neg hneg]
    rw [e] at ha hex hnd ⊢
    have ha' := ha
    rw [hcr] at ha'
    have hb := ha'.byte
    have hsp := AtB.span (p := digitB) r (i + 1) ha'.2 (fun x hx => hdig x (by rw [hcr]; exact List.mem_cons_of_mem _ hx)) (by rw [hcr] at hnd; simpa [Nat.add_assoc, Nat.add_comm 1] using hnd)
    have e2 : i + (digs 20 n.natAbs).length = i + 1 + r.length := by rw [hcr]; simp; omega
    rw [e2] at hex ⊢
    have hnum : numberF (⟨(digs 20 n.natAbs).toArray⟩ : ByteArray) = (n, 0) := by
      have ha2 := atB_self (digs 20 n.natAbs)
      rw [hcr] at ha2
      rw [numberF, if_neg (by rw [hcr, ha2.byte]; omega), numOf_digits false (by omega) (by simp)]
      simp; omega
    have hdg : digitB (byteAt s i) = true := by rw [hb]; simp [digitB]; omega
    have hlt : letterB (byteAt s i) = false := by rw [hb]; simp [letterB]; omega
    rw [tokenF, if_neg (by rw [hlt]; simp), if_pos (by rw [hdg]; rfl), hsp, hex, hnum, if_pos rfl]
/-- A mark is read as one. -/
theorem tokenF_mark {s : ByteArray} {c : UInt8} {i : Nat} (hm : markB (c.toNat : Int) = true) (ha : AtB s i [c]) (hi : i ≤ s.size) : tokenF s i = (⟨4, ⟨#[c]⟩, 0, i⟩, ((i + 1 : Nat) : Int), 0) := by
  have hex := ha.extract hi
  have hb := ha.byte
  simp only [List.length_singleton] at hex
  have hc : c.toNat = 59 ∨ c.toNat = 58 ∨ c.toNat = 44 ∨ c.toNat = 40 ∨ c.toNat = 41 := by simp [markB] at hm; omega
  rw [tokenF, if_neg (by rw [hb]; simp [letterB]; omega), if_neg (by rw [hb]; simp [digitB]; omega), if_pos (by rw [hb]; exact hm), hex]
end Go.Proofs.YtaepiiediblleaaGreatDoor

namespace Go.Proofs.YtaepiiediblleaaGreatDoor
open Go.RowKit

/-- What the scanner makes of a text. -/
def scanAll (s : ByteArray) : List Tok × Int × Int := if 16384 < s.size then ([], 0, 4) else scanF s s.size 0 []
def ParseQ (e : Ex) (er : Int) (M : List Nat) (w : World) (r : Ending) (w' : World) : Prop := ∃ (x : ExV) (off : Int), r = .returned (.tuple #[x.val, .int .i64 off, .int .i64 er]) ∧ IsEx (mask w' M) e x.val ∧ (er = 0 → off = 0) ∧ Ext w w'

set_option maxRecDepth 100000 in
set_option maxHeartbeats 2000000 in
theorem Parse_ok (s : ByteArray) (toks : List Tok) (e : Ex) (w : World) (ho : HasOps w) (hs : s.size ≤ 1000000000000000) (h64 : ∀ i, i < s.size → byteAt s i ≠ 64) (hS : scanAll s = (toks, 0, 0)) (htn : toks.length ≤ 1000000) (hsz : ∀ t ∈ toks, t.text.size ≤ 1000000000000000)
    (hT : tokensF toks 0 = (e, (toks.length : Int), 0, 0)) (M : List Nat) (hM : ∀ y ∈ M, y < w.heap.size) : Calls Tryz.prog 18 #[.string s] w (ParseQ e 0 M w) := by
  have HO := Lib.hid ho
  have HSC := Lib.hid (scan_calls s)
  have HS := Lib.hid hS
  have HT := Lib.hid hT
  have HZ := Lib.hid hsz
  have H64 := Lib.hid h64
  have HMM := Lib.hid hM
  clear ho hS hT hsz h64 hM HSC
  go_enter Tryz.func18, Tryz.ntmps18
  go_wp2_with fail
  refine (scan_calls s _ hs H64.out).mono ?_
  rw [show (if 16384 < s.size then (([], 0, 4) : List Tok × Int × Int) else scanF s s.size 0 []) = (toks, 0, 0) from HS.out]
  rintro r w1 ⟨a, n, c, rfl, hl, hx⟩
  have hb := hx.blk (alloc_new w (.cells #[.int .i64 0, .string ⟨#[]⟩, .slice none 0 0, .int .i64 0, .int .i64 0, .slice none 0 0] 28))
  have HX1 := Lib.hid (((Ext.refl w).alloc _).trans hx)
  have HL := Lib.hid hl
  have HN := Lib.hid hl.1
  have HB := Lib.hid hb
  have hn1 : n ≤ 1000000 := by have := hl.1; simp only at this; omega
  have HM1 := Lib.hid (show ∀ y ∈ w.heap.size :: M, y < w1.heap.size from fun y hy => by
    have h1 := blk_lt hb
    rcases List.mem_cons.1 hy with rfl | hy
    · exact h1
    · have := HMM.out y hy; omega)
  clear hx hl hb
  simp only at HL HN
  go_wp2_with fail
  refine (Tokens_calls toks a n c 0 w1 HL.out (HO.out.ext HX1.out) hn1 HZ.out (w.heap.size :: M) HM1.out).mono ?_
  rw [HT.out]
  rintro r w2 ⟨x, rfl, hix, hx2⟩
  have hb := hx2.blk HB.out
  have hlt := blk_lt hb
  obtain ⟨b0, b1, b2, b3, b4, b5, bf⟩ := blk6 hb
  have HX2 := Lib.hid (HX1.out.trans hx2)
  have HIX := Lib.hid hix
  have tn : decide ((toks.length : Int) < (n : Int)) = false := by have := HN.out; simp; omega
  have tn2 : decide (toks.length < n) = false := by have := HN.out; simp; omega
  clear hix hx2 hb HX1 HB
  unfold ExV.val exV
  simp only
  go_wp2_with fail
  refine bodyPost_ret (v := .tuple #[x.val, .int .i64 0, .int .i64 0]) (by simp [results, Tryz.results18, go_sem, ExV.val, exV, b0, b1, b2, b3, b4, b5, hlt]) rfl ?_
  refine ⟨x, 0, rfl, HIX.out.mono ((Chg.sub ?_).trans (mask_less _ (fun y hy => List.mem_cons_of_mem _ hy))), fun _ => rfl, ?_⟩
  · repeat (with_reducible (first | refine Chg.alloc ?_ _ | refine Chg.setCell ?_ ?_ _ | refine Chg.drew ?_ | refine Chg.drewN ?_ _))
    exact Chg.refl _ _
    all_goals (refine Or.inl ?_; simp)
  · repeat (with_reducible (first | refine Ext.alloc ?_ _ | refine Ext.setAbove ?_ ?_ _ | refine Ext.drew ?_ | refine Ext.drewN ?_ _))
    exact HX2.out
    all_goals simp
end Go.Proofs.YtaepiiediblleaaGreatDoor

namespace Go.Proofs.YtaepiiediblleaaGreatDoor

/-- A piece of a text: a blank, or a token. -/
inductive Pc where
  | sp
  | tk (t : Tok)
def tokB (t : Tok) : List UInt8 := if t.kind = 2 then decB t.num else t.text.data.toList
def Pc.bytes : Pc → List UInt8
  | .sp => [32]
  | .tk t => tokB t
def pcsB (l : List Pc) : List UInt8 := l.flatMap Pc.bytes
def toksOf : List Pc → List Tok
  | [] => []
  | .sp :: r => toksOf r
  | .tk t :: r => t :: toksOf r
theorem pcsB_append (a b : List Pc) : pcsB (a ++ b) = pcsB a ++ pcsB b := by simp [pcsB]
theorem toksOf_append : (a b : List Pc) → toksOf (a ++ b) = toksOf a ++ toksOf b
  | [], b => rfl
  | .sp :: r, b => by simp [toksOf, toksOf_append r b]
  | .tk t :: r, b => by simp [toksOf, toksOf_append r b]
/-- A token that can be written. -/
def goodT (t : Tok) : Prop := t.pos = 0 ∧ ((t.kind = 1 ∧ wordB t.text = true ∧ t.num = 0) ∨ (t.kind = 2 ∧ t.text = ⟨#[]⟩ ∧ -17592186044416 ≤ t.num ∧ t.num ≤ 17592186044416) ∨ (t.kind = 4 ∧ t.num = 0 ∧ ∃ c : UInt8, t.text = ⟨#[c]⟩ ∧ markB (c.toNat : Int) = true))
/-- Between two tokens of which none is a mark there is a blank. -/
def sepA : Bool → List Pc → Bool
  | _, [] => true
  | _, .sp :: r => sepA false r
  | p, .tk t :: r => (!p || t.kind == 4) && sepA (t.kind != 4) r
def endA : Bool → List Pc → Bool
  | p, [] => p
  | _, .sp :: r => endA false r
  | _, .tk t :: r => endA (t.kind != 4) r
theorem sepA_append : (a b : List Pc) → (p : Bool) → sepA p (a ++ b) = (sepA p a && sepA (endA p a) b)
  | [], b, p => by simp [sepA, endA]
  | .sp :: r, b, p => by simp [sepA, endA, sepA_append r b]
  | .tk t :: r, b, p => by simp [sepA, endA, sepA_append r b, Bool.and_assoc]
theorem sepA_false {l : List Pc} {p : Bool} (h : sepA p l = true) : sepA false l = true := by
  cases l with
  | nil => rfl
  | cons x r =>
    cases x with
    | sp => simpa [sepA] using h
    | tk t => simp only [sepA, Bool.and_eq_true] at h ⊢; exact ⟨by simp, h.2⟩
theorem goodT_ne {t : Tok} (h : goodT t) : ∃ c r, tokB t = c :: r ∧ (c.toNat : Int) ≠ 32 ∧ (c.toNat : Int) ≠ 10 ∧ (c.toNat : Int) ≠ 35 ∧ (t.kind = 4 → inWordB (c.toNat : Int) = false) := by
  obtain ⟨_, ⟨h1, h2, _⟩ | ⟨h1, h2, h3, h4⟩ | ⟨h1, _, c, h2, h3⟩⟩ := h
  · have hw := h2
    simp only [wordB, Bool.and_eq_true, bne_iff_ne] at hw
    obtain ⟨⟨⟨⟨h0, _⟩, h5⟩, _⟩, _⟩ := hw
    have h0' : 0 < t.text.size := by omega
    rw [byteAt_lt h0'] at h5
    have e : tokB t = t.text.data.toList := by rw [tokB, if_neg (by omega)]
    cases hb : t.text.data.toList with
    | nil =>
      have : t.text.data.toList.length = 0 := by rw [hb]; rfl
      rw [Array.length_toList] at this
      have e2 : t.text.data.size = t.text.size := rfl
      omega
    | cons c r =>
      have hc : t.text[0] = c := by
        rw [ByteArray.getElem_eq_getElem_data, ← Array.getElem_toList]
        simp only [hb, List.getElem_cons_zero]
      rw [hc] at h5
      simp [letterB] at h5
      exact ⟨c, r, by rw [e, hb], by omega, by omega, by omega, fun h => by omega⟩
  · have e : tokB t = decB t.num := by rw [tokB, if_pos h1]
    rw [e, decB]
    split
    · exact ⟨45, _, rfl, by decide, by decide, by decide, fun h => by omega⟩
    · cases hb : digs 20 t.num.natAbs with
      | nil => exact absurd hb (digs_ne 19 _)
      | cons c r =>
        have := digs_all 20 t.num.natAbs c (by rw [hb]; simp)
        unfold isDig at this
        exact ⟨c, r, rfl, by omega, by omega, by omega, fun h => by omega⟩
  · have e : tokB t = [c] := by rw [tokB, if_neg (by omega), h2]
    have hc : c.toNat = 59 ∨ c.toNat = 58 ∨ c.toNat = 44 ∨ c.toNat = 40 ∨ c.toNat = 41 := by simp [markB] at h3; omega
    exact ⟨c, [], e, by omega, by omega, by omega, fun _ => by simp [inWordB, letterB, digitB]; omega⟩
theorem tokenF_good {s : ByteArray} {t : Tok} {i : Nat} (h : goodT t) (ha : AtB s i (tokB t)) (hi : i ≤ s.size) (hn : t.kind ≠ 4 → inWordB (byteAt s (i + (tokB t).length)) = false) : tokenF s i = (⟨t.kind, t.text, t.num, i⟩, ((i + (tokB t).length : Nat) : Int), 0) := by
  obtain ⟨_, ⟨h1, h2, h3⟩ | ⟨h1, h2, h3, h4⟩ | ⟨h1, h4, c, h2, h3⟩⟩ := h
  · have e : tokB t = t.text.data.toList := by rw [tokB, if_neg (by omega)]
    rw [e] at ha hn ⊢
    rw [tokenF_word h2 ha hi (hn (by omega)), h1, h3]
  · have e : tokB t = decB t.num := by rw [tokB, if_pos h1]
    rw [e] at ha hn ⊢
    rw [tokenF_number h3 h4 ha hi (hn (by omega)), h1, h2]
  · have e : tokB t = [c] := by rw [tokB, if_neg (by omega), h2]
    rw [e] at ha ⊢
    rw [tokenF_mark h3 ha hi, h1, h2, h4]; rfl
/-- A token without its place. -/
def zp (t : Tok) : Tok := ⟨t.kind, t.text, t.num, 0⟩
/-- A text of pieces is divided into their tokens. -/
theorem scan_pcs {s : ByteArray} : (l : List Pc) → (i : Nat) → (acc : List Tok) → (f : Nat) → i ≤ s.size → AtB s i (pcsB l) → i + (pcsB l).length = s.size → sepA false l = true → (∀ t ∈ toksOf l, goodT t) → acc.length + (toksOf l).length ≤ 4000 → s.size - i ≤ f →
    ∃ ts, scanF s f i acc = (acc ++ ts, 0, 0) ∧ ts.map zp = toksOf l
  | [], i, acc, f, hi, _, hl, _, _, _, hf => by
    refine ⟨[], ?_, rfl⟩
    simp [pcsB] at hl
    cases f with
    | zero => simp [scanF]
    | succ f => rw [scanF, if_pos (by omega)]; simp
  | .sp :: r, i, acc, f, hi, ha, hl, hs, hg, hn, hf => by
    have e : pcsB (.sp :: r) = 32 :: pcsB r := rfl
    rw [e] at ha hl
    have hb := ha.byte
    obtain ⟨h1, _⟩ := ha.1
    obtain ⟨g, rfl⟩ : ∃ g, f = g + 1 := ⟨f - 1, by omega⟩
    obtain ⟨ts, h2, h3⟩ := scan_pcs r (i + 1) acc g h1 ha.2 (by simp at hl; omega) (by simpa [sepA] using hs) hg hn (by omega)
    refine ⟨ts, ?_, h3⟩
    rw [scanF, if_neg (by omega), if_pos (by rw [hb]; rfl), h2]
  | .tk t :: r, i, acc, f, hi, ha, hl, hs, hg, hn, hf => by
    have e : pcsB (.tk t :: r) = tokB t ++ pcsB r := rfl
    rw [e] at ha hl
    rw [AtB.append] at ha
    have hgt := hg t (by simp [toksOf])
    obtain ⟨c, q, hc, c1, c2, c3, _⟩ := goodT_ne hgt
    have hb : byteAt s i = (c.toNat : Int) := by have := ha.1; rw [hc] at this; exact this.byte
    have h1 : i < s.size := by have := ha.1; rw [hc] at this; exact this.1.1
    obtain ⟨g, rfl⟩ : ∃ g, f = g + 1 := ⟨f - 1, by omega⟩
    have hle := AtB.le _ i hi ha.1
    have hsr : sepA (t.kind != 4) r = true := by simp only [sepA, Bool.and_eq_true] at hs; exact hs.2
    have hnext : t.kind ≠ 4 → inWordB (byteAt s (i + (tokB t).length)) = false := by
      intro hk
      have hp : (t.kind != 4) = true := by simpa using hk
      rw [hp] at hsr
      cases r with
      | nil =>
        have : ¬ i + (tokB t).length < s.size := by simp [pcsB] at hl; omega
        rw [byteAt, dif_neg this]; decide
      | cons x r' =>
        cases x with
        | sp => have h2 : AtB s (i + (tokB t).length) (32 :: pcsB r') := ha.2; rw [h2.byte]; decide
        | tk u =>
          have h2 : AtB s (i + (tokB t).length) (tokB u ++ pcsB r') := ha.2
          rw [AtB.append] at h2
          simp only [sepA, Bool.and_eq_true, Bool.not_true, Bool.false_or, beq_iff_eq] at hsr
          obtain ⟨c', q', hc', _, _, _, h4⟩ := goodT_ne (hg u (by simp [toksOf]))
          have h3 := h2.1
          rw [hc'] at h3
          rw [h3.byte]; exact h4 hsr.1
    have htok := tokenF_good hgt ha.1 hi hnext
    obtain ⟨ts, h2, h3⟩ := scan_pcs r (i + (tokB t).length) (acc ++ [⟨t.kind, t.text, t.num, i⟩]) g hle ha.2 (by rw [List.length_append] at hl; omega) (sepA_false hsr) (fun u hu => hg u (by simp [toksOf, hu])) (by simp [toksOf] at hn ⊢; omega) (by rw [hc]; simp; omega)
    refine ⟨⟨t.kind, t.text, t.num, i⟩ :: ts, ?_, ?_⟩
    · rw [scanF_tok h1 (by rw [hb]; simpa using c1) (by rw [hb]; simpa using c2) (by rw [hb]; simpa using c3), htok, tokStep_go (by simp [toksOf] at hn; omega), h2]
      · simp
      · by_cases hk2 : t.kind = 2
        · refine Or.inr ?_
          have h5 := hnext (by omega)
          by_cases hlt : i + (tokB t).length < s.size
          · refine Or.inr ⟨hlt, ?_⟩
            rw [byteAt_lt hlt] at h5
            simp only [inWordB, Bool.or_eq_false_iff] at h5
            exact ⟨h5.1.1, h5.2⟩
          · exact Or.inl hlt
        · exact Or.inl (by simpa using hk2)
    · have hp := hgt.1
      simp only [List.map_cons, toksOf, h3, zp]
      cases t; simp at hp; subst hp; rfl
theorem pcs_no64 : (l : List Pc) → (∀ t ∈ toksOf l, goodT t) → ∀ c ∈ pcsB l, (c.toNat : Int) ≠ 64
  | [], _, c, h => by simp [pcsB] at h
  | .sp :: r, hg, c, h => by
    have e : pcsB (.sp :: r) = 32 :: pcsB r := rfl
    rw [e] at h
    rcases List.mem_cons.1 h with rfl | h
    · decide
    · exact pcs_no64 r hg c h
  | .tk t :: r, hg, c, h => by
    have e : pcsB (.tk t :: r) = tokB t ++ pcsB r := rfl
    rw [e] at h
    rcases List.mem_append.1 h with h | h
    · obtain ⟨_, ⟨h1, h2, h3⟩ | ⟨h1, h2, h3, h4⟩ | ⟨h1, h4, d, h2, h3⟩⟩ := hg t (by simp [toksOf])
      · rw [tokB, if_neg (by omega)] at h
        simp only [wordB, Bool.and_eq_true, beq_iff_eq] at h2
        obtain ⟨j, hj, rfl⟩ := List.getElem_of_mem h
        have hj' : j < t.text.size := by simpa using hj
        have := spanF_all inWordB t.text t.text.size 0 j hj' (by omega) (by rw [h2.2]; exact hj')
        simp only [ByteArray.getElem_eq_getElem_data] at this
        simp only [Array.getElem_toList]
        intro h64
        rw [h64] at this
        revert this; decide
      · rw [tokB, if_pos h1, decB] at h
        have key : ∀ x ∈ digs 20 t.num.natAbs, (x.toNat : Int) ≠ 64 := fun x hx => by have := digs_all _ _ x hx; unfold isDig at this; omega
        split at h
        · rcases List.mem_cons.1 h with rfl | h
          · decide
          · exact key c h
        · exact key c h
      · rw [tokB, if_neg (by omega), h2] at h
        simp at h; subst h
        intro h64; rw [h64] at h3; revert h3; decide
    · exact pcs_no64 r (fun u hu => hg u (by simp [toksOf, hu])) c h
theorem scanAll_pcs {l : List Pc} (hs : sepA false l = true) (hg : ∀ t ∈ toksOf l, goodT t) (hn : (toksOf l).length ≤ 4000) (hb : (pcsB l).length ≤ 16384) : ∃ ts, scanAll ⟨(pcsB l).toArray⟩ = (ts, 0, 0) ∧ ts.map zp = toksOf l := by
  have hsz : (⟨(pcsB l).toArray⟩ : ByteArray).size = (pcsB l).length := by simp [ByteArray.size]
  obtain ⟨ts, h1, h2⟩ := scan_pcs (s := ⟨(pcsB l).toArray⟩) l 0 [] (⟨(pcsB l).toArray⟩ : ByteArray).size (by omega) (atB_self _) (by omega) hs hg (by simpa using hn) (by omega)
  refine ⟨ts, ?_, h2⟩
  rw [scanAll, if_neg (by omega), h1]; rfl
theorem no64_pcs {l : List Pc} (hg : ∀ t ∈ toksOf l, goodT t) : ∀ i, i < (⟨(pcsB l).toArray⟩ : ByteArray).size → byteAt ⟨(pcsB l).toArray⟩ i ≠ 64 := by
  intro i hi
  rw [byteAt_lt hi]
  refine pcs_no64 l hg _ ?_
  rw [ByteArray.getElem_eq_getElem_data]
  simp
theorem atT_of_map {ts : List Tok} : (l : List Tok) → (k : Nat) → (∀ t ∈ l, t.pos = 0) → (ts.drop k).map zp = l ++ (ts.drop (k + l.length)).map zp → AtT ts k l
  | [], _, _, _ => trivial
  | x :: r, k, hp, h => by
    cases hd : ts.drop k with
    | nil => rw [hd] at h; simp at h
    | cons y q =>
      rw [hd] at h
      simp only [List.map_cons, List.cons_append, List.cons.injEq] at h
      have hk : ts[k]? = some y := by rw [← List.head?_drop, hd]; rfl
      refine ⟨⟨y.pos, ?_⟩, atT_of_map r (k + 1) (fun t ht => hp t (List.mem_cons_of_mem _ ht)) ?_⟩
      · rw [hk, ← h.1]; rfl
      · have e : ts.drop (k + 1) = q := by rw [← List.drop_drop, hd]; rfl
        rw [e, h.2, show k + 1 + r.length = k + (x :: r).length by simp; omega]
theorem atT_all {ts l : List Tok} (h : ts.map zp = l) : AtT ts 0 l ∧ ts.length = l.length := by
  have hl : ts.length = l.length := by rw [← h]; simp
  refine ⟨atT_of_map l 0 (fun t ht => by rw [← h] at ht; obtain ⟨u, _, rfl⟩ := List.mem_map.1 ht; rfl) ?_, hl⟩
  simp [h, ← hl]

/-- How Join puts tokens one after the other. -/
def closes (b : List UInt8) : Bool := b == [59] || b == [58] || b == [44] || b == [41]
def joinPc : Bool → List Tok → List Pc
  | _, [] => []
  | g, t :: r => (if !g && !closes (tokB t) then [.sp, .tk t] else [.tk t]) ++ joinPc (tokB t == [40]) r
def gluedA : Bool → List Tok → Bool
  | g, [] => g
  | _, t :: r => gluedA (tokB t == [40]) r
theorem joinPc_append : (a b : List Tok) → (g : Bool) → joinPc g (a ++ b) = joinPc g a ++ joinPc (gluedA g a) b
  | [], b, g => by simp [joinPc, gluedA]
  | t :: r, b, g => by simp [joinPc, gluedA, joinPc_append r b]
theorem gluedA_snoc : (a : List Tok) → (g : Bool) → (t : Tok) → gluedA g (a ++ [t]) = (tokB t == [40])
  | [], g, t => by simp [gluedA]
  | x :: r, g, t => by simp [gluedA, gluedA_snoc r]
theorem toksOf_joinPc : (l : List Tok) → (g : Bool) → toksOf (joinPc g l) = l
  | [], g => rfl
  | t :: r, g => by
    rw [joinPc, toksOf_append, toksOf_joinPc r]
    split <;> rfl
theorem good_mark {t : Tok} (h : goodT t) {c : UInt8} (hc : tokB t = [c]) (hm : markB (c.toNat : Int) = true) : t.kind = 4 := by
  obtain ⟨_, ⟨h1, h2, h3⟩ | ⟨h1, h2, h3, h4⟩ | ⟨h1, h4, d, h2, h3⟩⟩ := h
  · exfalso
    simp only [wordB, Bool.and_eq_true, bne_iff_ne] at h2
    obtain ⟨⟨⟨⟨h0, _⟩, h5⟩, _⟩, _⟩ := h2
    have h0' : 0 < t.text.size := by omega
    rw [byteAt_lt h0', ByteArray.getElem_eq_getElem_data] at h5
    rw [tokB, if_neg (by omega)] at hc
    have : t.text.data[0]'h0' = c := by rw [← Array.getElem_toList]; simp only [hc, List.getElem_cons_zero]
    rw [this] at h5
    simp [letterB] at h5
    simp [markB] at hm
    omega
  · exfalso
    rw [tokB, if_pos h1, decB] at hc
    have hm' : c.toNat = 59 ∨ c.toNat = 58 ∨ c.toNat = 44 ∨ c.toNat = 40 ∨ c.toNat = 41 := by simp [markB] at hm; omega
    split at hc
    · simp only [List.cons.injEq] at hc
      exact digs_ne 19 _ hc.2
    · have := digs_all 20 t.num.natAbs c (by rw [hc]; simp)
      unfold isDig at this
      omega
  · exact h1
theorem sepA_joinPc : (l : List Tok) → (g p : Bool) → (∀ t ∈ l, goodT t) → (g = true → p = false) → sepA p (joinPc g l) = true
  | [], g, p, _, _ => rfl
  | t :: r, g, p, hg, hp => by
    have hgt := hg t (by simp)
    have ih := sepA_joinPc r (tokB t == [40]) (t.kind != 4) (fun u hu => hg u (List.mem_cons_of_mem _ hu)) (fun h => by
      have := good_mark hgt (c := 40) (by simpa using h) (by decide)
      simp [this])
    rw [joinPc]
    split
    · simp only [List.cons_append, List.nil_append, sepA, ih, Bool.not_false, Bool.true_or, Bool.and_true]
    · rename_i hc
      simp only [List.cons_append, List.nil_append, sepA, ih, Bool.and_true, Bool.or_eq_true, Bool.not_eq_true', beq_iff_eq]
      cases hgg : g with
      | true => exact Or.inl (hp hgg)
      | false =>
        right
        rw [hgg] at hc
        have hcl : closes (tokB t) = true := by simpa using hc
        simp only [closes, Bool.or_eq_true, beq_iff_eq] at hcl
        rcases hcl with ((h | h) | h) | h
        · exact good_mark hgt h (by decide)
        · exact good_mark hgt h (by decide)
        · exact good_mark hgt h (by decide)
        · exact good_mark hgt h (by decide)
/-- The bytes of an expression's text, as pieces. -/
def fmtPc (e : Ex) : List Pc := joinPc true (tokE e)
def fmtB (e : Ex) : List UInt8 := pcsB (fmtPc e)
end Go.Proofs.YtaepiiediblleaaGreatDoor
