/-
  Texts of the claim, joined: RJoin1, RJoin2, SJoin1, LaidB, GrowG.
-/
import Derived.Test.YtaepiiediblleaaGreatDoorBa11
import Derived.Test.YtaepiiediblleaaGreatDoorBa06
import Derived.Laws.IdiomStrings
import Derived.Deep.DeepCutAuto
import Derived.Deep.LoopGhost
import Derived.Lib.SmallJoins
import Derived.Test.YtaepiiediblleaaGreatDoorRows
import Derived.Test.YtaepiiediblleaaGreatDoorBa01
import Derived.Test.YtaepiiediblleaaGreatDoorBa10
namespace Go.Proofs.YtaepiiediblleaaGreatDoor
open Go.RowKit

theorem rvalid_calls (n : Int) (w : World) : Calls Tryz.prog 85 #[.int .i64 n] w (Gives (.bool (decide (-17592186044416 ≤ n) && decide (n ≤ 17592186044416))) w) := by
  cases h1 : decide (-17592186044416 ≤ n)
  · go_enter Tryz.func85, Tryz.ntmps85
    go_wp2_with fail
    go_ret
    exact gives_bool rfl
  · go_enter Tryz.func85, Tryz.ntmps85
    go_wp2_with fail
    go_ret
    exact gives_bool (by simp)

theorem uBy : Tryz.prog.underlying 5 = some (.int .u8) := by kernel_rfl
theorem uBs : Tryz.prog.underlying 102 = some (.slice 5) := by kernel_rfl
theorem uSt : Tryz.prog.underlying 9 = some .string := by kernel_rfl
/-- string([]byte{c}) -/
theorem conv_byte (w : World) (x : Nat) (hx : x = w.heap.size) (c : Int) (t : TypeId) : Sem.run Tryz.prog (convert 102 9 (.slice (some ⟨x, 0, none⟩) 1 1)) (w.alloc (.cells #[.int .u8 c] t)) = .ok (.string ⟨#[UInt8.ofNat c.toNat]⟩) (w.alloc (.cells #[.int .u8 c] t)) := by
  subst hx
  rw [run_convert_bytes_string _ _ _ 5 _ _ _ uBs uBy uSt]
  have := run_bytesToString (P := Tryz.prog) (w.alloc (.cells #[.int .u8 c] t)) ⟨w.heap.size, 0, none⟩ 1 1 [c] (by
    refine run_loadCells_list (P := Tryz.prog) _ _ [.int .u8 c] (fun j v hj => ?_)
    have hj0 : j = 0 := by
      have := (List.getElem?_eq_some_iff.1 hj).1
      simpa using this
    subst hj0
    have : (⟨w.heap.size, 0, none⟩ : Addr).add 0 = ⟨w.heap.size, 0, none⟩ := by unfold Addr.add; split <;> simp_all
    rw [this, World.cell?_alloc_at _ _ _ _ rfl]
    simpa using hj)
  rw [this]
  rfl

/-- What digits has still to do. -/
def DigI (D : List UInt8) (m : Nat) (b : List UInt8) : Prop := (m = 0 ∧ b = D ∧ b ≠ []) ∨ ∃ f, m < 10 ^ f ∧ digs f m ++ b = D ∧ (0 < m ∨ b = []) ∧ 0 < f
theorem digI_step {D : List UInt8} {m : Nat} {b : List UInt8} (h : DigI D m b) (hg : 0 < m ∨ b = []) : DigI D (m / 10) (UInt8.ofNat (48 + m % 10) :: b) := by
  rcases h with ⟨h1, _, h3⟩ | ⟨f, h1, h2, _, h4⟩
  · rcases hg with hg | hg
    · omega
    · exact absurd hg h3
  · obtain ⟨f, rfl⟩ : ∃ g, f = g + 1 := ⟨f - 1, by omega⟩
    rw [digs] at h2
    split at h2
    · rename_i hm
      refine Or.inl ⟨by omega, ?_, by simp⟩
      rw [Nat.mod_eq_of_lt hm]; simpa using h2
    · refine Or.inr ⟨f, by rw [Nat.pow_succ] at h1; omega, by simpa using h2, Or.inl (by omega), ?_⟩
      rcases Nat.eq_zero_or_pos f with rfl | hf
      · simp at h1; omega
      · exact hf
theorem digI_done {D : List UInt8} {m : Nat} {b : List UInt8} (h : DigI D m b) (hm : m = 0) (hb : b ≠ []) : b = D := by
  rcases h with ⟨_, h2, _⟩ | ⟨f, _, _, h3, _⟩
  · exact h2
  · rcases h3 with h3 | h3
    · omega
    · exact absurd h3 hb
theorem app_one (x : UInt8) (b : List UInt8) : (⟨#[x]⟩ ++ ⟨b.toArray⟩ : ByteArray) = ⟨(x :: b).toArray⟩ := by
  apply ByteArray.ext
  simp
def emptyS : Value → Nat
  | .string b => if b.size = 0 then 1 else 0
  | _ => 0
def bstr (b : List UInt8) : Value := .string ⟨b.toArray⟩

set_option maxRecDepth 100000 in
set_option maxHeartbeats 1000000 in
theorem digits_calls (n : Nat) (hn : n ≤ 17592186044416) (w : World) : Calls Tryz.prog 109 #[.int .i64 n, .int .i64 1] w (GivesE (bstr (digs 20 n)) w) := by
  have kc := conv_byte
  have h0 := Lib.hid (show DigI (digs 20 n) n [] from Or.inr ⟨20, by omega, by simp, Or.inr rfl, by omega⟩)
  go_enter Tryz.func109, Tryz.ntmps109
  go_wp2_with fail
  go_loopw [0, 5] (fun u s wr => ∃ (m : Nat) (b : List UInt8), u = .int .i64 m ∧ s = .string ⟨b.toArray⟩ ∧ m ≤ 17592186044416 ∧ b.length + m ≤ 18000000000000 ∧ DigI (digs 20 n) m b ∧ Ext w wr) (fun u s _ => (intOf u).toNat + emptyS s)
  case atStart => exact ⟨n, [], rfl, rfl, hn, by simp; omega, h0.out, Ext.refl w⟩
  case round =>
    obtain ⟨m, b, rfl, rfl, hm, hbl, hD, hx⟩ := hrel
    have HD := Lib.hid hD
    have HX := Lib.hid hx
    clear hD hx
    have HA := Lib.hid (app_one (48 + UInt8.ofNat (m % 10)) b)
    by_cases hm0 : 0 < m
    · have t1 : decide (0 < (m : Int)) = true := by simp; omega
      have t2 : decide (0 < m) = true := by simp; omega
      have HGO := Lib.hid (show DigI (digs 20 n) (m / 10) ((48 + UInt8.ofNat (m % 10)) :: b) by have := digI_step HD.out (Or.inl hm0); rwa [UInt8.ofNat_add] at this)
      clear HD
      go_wp2_with fail
      refine ⟨⟨m / 10, _ :: b, by go_num, by rw [HA.out], by omega, by simp; omega, HGO.out, HX.out.alloc _⟩, ?_⟩
      rw [HA.out]
      simp [intOf, emptyS, ByteArray.size]
      omega
    · have t1 : decide (0 < (m : Int)) = false := by simp; omega
      have t2 : decide (0 < m) = false := by simp; omega
      have HM0 := Lib.hid (show m = 0 by omega)
      cases b with
      | nil =>
        have HGO := Lib.hid (show DigI (digs 20 n) (m / 10) ((48 + UInt8.ofNat (m % 10)) :: []) by have := digI_step HD.out (Or.inr rfl); rwa [UInt8.ofNat_add] at this)
        clear HD
        go_wp2_with fail
        refine ⟨⟨m / 10, _ :: [], by go_num, by rw [HA.out], by omega, by simp; omega, HGO.out, HX.out.alloc _⟩, ?_⟩
        rw [HA.out]
        have := HM0.out
        simp [intOf, emptyS, ByteArray.size]
        omega
      | cons c r =>
        have HEND := Lib.hid (digI_done HD.out HM0.out (by simp))
        go_wp2_with fail
        go_ret
        exact ⟨by rw [HEND.out]; rfl, HX.out⟩

theorem digs_le : (f n : Nat) → (digs f n).length ≤ f
  | 0, n => by simp [digs]
  | f + 1, n => by
    have := digs_le f (n / 10)
    rw [digs]; split
    · simp
    · simp; omega
theorem decimal_calls (n : Int) (h1 : -17592186044416 ≤ n) (h2 : n ≤ 17592186044416) (w : World) : Calls Tryz.prog 86 #[.int .i64 n] w (GivesE (bstr (decB n)) w) := by
  by_cases hn : n < 0
  · have t1 : decide (n < 0) = true := by simpa using hn
    have HE := Lib.hid (show decB n = 45 :: digs 20 n.natAbs by rw [decB, if_pos hn])
    have HN := Lib.hid (show -n = (n.natAbs : Int) by omega)
    have hle : n.natAbs ≤ 17592186044416 := by omega
    have HC := Lib.hid (show Calls Tryz.prog 109 #[.int .i64 (-n), .int .i64 1] w (GivesE (bstr (digs 20 n.natAbs)) w) by have := digits_calls _ hle w; rwa [← HN.out] at this)
    clear hle
    go_enter Tryz.func86, Tryz.ntmps86
    go_wp2_with fail
    refine HC.out.mono ?_
    rintro r w1 ⟨rfl, hx⟩
    unfold bstr
    have HX := Lib.hid hx
    clear hx
    have hD := digs_le 20 n.natAbs
    generalize digs 20 n.natAbs = D at *
    go_wp2_with fail
    go_ret
    exact ⟨by rw [HE.out, bstr, ← app_one 45 D]; rfl, HX.out⟩
  · have t1 : decide (n < 0) = false := by simpa using hn
    have HE := Lib.hid (show decB n = digs 20 n.natAbs by rw [decB, if_neg hn])
    have HN := Lib.hid (show n = (n.natAbs : Int) by omega)
    have hle : n.natAbs ≤ 17592186044416 := by omega
    have HC := Lib.hid (show Calls Tryz.prog 109 #[.int .i64 n, .int .i64 1] w (GivesE (bstr (digs 20 n.natAbs)) w) by have := digits_calls _ hle w; rwa [← HN.out] at this)
    go_enter Tryz.func86, Tryz.ntmps86
    go_wp2_with fail
    refine HC.out.mono ?_
    rintro r w1 ⟨rfl, hx⟩
    unfold bstr
    go_wp2_with fail
    go_ret
    exact ⟨by rw [HE.out]; rfl, hx⟩

/-- A text of one byte that is a mark. -/
theorem rmark_calls (c : UInt8) (hm : markB (c.toNat : Int) = true) (w : World) : Calls Tryz.prog 60 #[.string ⟨#[c]⟩] w (Gives (.bool true) w) := by
  have hc : c = 59 ∨ c = 58 ∨ c = 44 ∨ c = 40 ∨ c = 41 := by
    have : c.toNat = 59 ∨ c.toNat = 58 ∨ c.toNat = 44 ∨ c.toNat = 40 ∨ c.toNat = 41 := by simp [markB] at hm; omega
    rcases this with h | h | h | h | h
    · exact Or.inl (toNat_inj h)
    · exact Or.inr (Or.inl (toNat_inj h))
    · exact Or.inr (Or.inr (Or.inl (toNat_inj h)))
    · exact Or.inr (Or.inr (Or.inr (Or.inl (toNat_inj h))))
    · exact Or.inr (Or.inr (Or.inr (Or.inr (toNat_inj h))))
  clear hm
  rcases hc with rfl | rfl | rfl | rfl | rfl
  all_goals
    go_enter Tryz.func60, Tryz.ntmps60
    go_wp2_with fail
    go_ret
    exact gives_bool rfl

def WrittenQ (b : List UInt8) (w : World) (e : Ending) (w' : World) : Prop := e = .returned (.tuple #[bstr b, .int .i64 0]) ∧ Ext w w'
set_option maxRecDepth 100000 in
set_option maxHeartbeats 1000000 in
theorem written_calls (t : Tok) (hg : goodT t) (w : World) : Calls Tryz.prog 48 #[tokV t] w (WrittenQ (tokB t) w) := by
  obtain ⟨hp, hg⟩ := hg
  clear hp
  obtain ⟨h1, h2, h3⟩ | ⟨h1, h2, h3, h4⟩ | ⟨h1, h4, c, h2, h3⟩ := hg
  · have HE := Lib.hid (show bstr (tokB t) = .string t.text by rw [tokB, if_neg (by omega)]; simp [bstr])
    have HW := Lib.hid h2
    have hsz : t.text.size ≤ 1000000000000000 := by simp only [wordB, Bool.and_eq_true, decide_eq_true_eq] at h2; have := h2.1.1.1.2; omega
    have HX := Lib.hid ((Ext.refl w).alloc (.cells #[.int .i64 1, .string t.text, .int .i64 0, .int .i64 t.pos] 73))
    unfold tokV
    rw [h1, h3]
    clear h1 h2 h3
    go_enter Tryz.func48, Tryz.ntmps48
    go_wp2_with fail
    refine (rword_calls _ _ hsz).mono ?_
    rintro r w1 ⟨rfl, rfl⟩
    rw [HW.out]
    go_wp2_with fail
    refine bodyPost_ret (v := .tuple #[.string t.text, .int .i64 0]) (by simp [results, Tryz.results48, go_sem]) rfl ⟨?_, HX.out⟩
    rw [HE.out]
  · have HE := Lib.hid (show bstr (tokB t) = bstr (decB t.num) by rw [tokB, if_pos h1])
    have HX := Lib.hid ((Ext.refl w).alloc (.cells #[.int .i64 2, .string ⟨#[]⟩, .int .i64 t.num, .int .i64 t.pos] 73))
    have HV := Lib.hid (show (decide (-17592186044416 ≤ t.num) && decide (t.num ≤ 17592186044416)) = true by simp [h3, h4])
    have HC := Lib.hid (decimal_calls t.num h3 h4)
    unfold tokV
    rw [h1, h2]
    clear h1 h2 h3 h4
    go_enter Tryz.func48, Tryz.ntmps48
    go_wp2_with fail
    refine (rvalid_calls _ _).mono ?_
    rintro r w1 ⟨rfl, rfl⟩
    rw [HV.out]
    go_wp2_with fail
    refine (HC.out _).mono ?_
    rintro r w1 ⟨rfl, hx⟩
    have HX1 := Lib.hid (HX.out.trans hx)
    clear hx
    unfold bstr
    go_wp2_with fail
    refine bodyPost_ret (v := .tuple #[bstr (decB t.num), .int .i64 0]) (by simp [results, Tryz.results48, go_sem, bstr]) rfl ⟨?_, HX1.out⟩
    rw [HE.out]
  · have HE := Lib.hid (show bstr (tokB t) = .string ⟨#[c]⟩ by rw [tokB, if_neg (by omega), h2]; rfl)
    have HX := Lib.hid ((Ext.refl w).alloc (.cells #[.int .i64 4, .string ⟨#[c]⟩, .int .i64 0, .int .i64 t.pos] 73))
    have HC := Lib.hid (rmark_calls c h3)
    unfold tokV
    rw [h1, h2, h4]
    clear h1 h2 h3 h4
    go_enter Tryz.func48, Tryz.ntmps48
    go_wp2_with fail
    refine (HC.out _).mono ?_
    rintro r w1 ⟨rfl, rfl⟩
    go_wp2_with fail
    refine bodyPost_ret (v := .tuple #[.string ⟨#[c]⟩, .int .i64 0]) (by simp [results, Tryz.results48, go_sem]) rfl ⟨?_, HX.out⟩
    rw [HE.out]
end Go.Proofs.YtaepiiediblleaaGreatDoor

namespace Go.Proofs.YtaepiiediblleaaGreatDoor
open Go.RowKit

/-- Join's two results. -/
def JoinQ (b : List UInt8) (er : Int) (w : World) (e : Ending) (w' : World) : Prop := e = .returned (.tuple #[bstr b, .int .i64 er]) ∧ Ext w w'
theorem app_str (a b : List UInt8) : (⟨a.toArray⟩ ++ ⟨b.toArray⟩ : ByteArray) = ⟨(a ++ b).toArray⟩ := by
  apply ByteArray.ext
  simp
theorem pcs_snoc (l : List Tok) (t : Tok) : pcsB (joinPc true (l ++ [t])) = pcsB (joinPc true l) ++ ((if !gluedA true l && !closes (tokB t) then [32] else []) ++ tokB t) := by
  rw [joinPc_append, pcsB_append]
  simp only [joinPc, List.append_nil]
  split <;> simp [pcsB, Pc.bytes]
theorem pcs_take (l : List Tok) (k : Nat) : (pcsB (joinPc true (l.take k))).length ≤ (pcsB (joinPc true l)).length := by
  have h := joinPc_append (l.take k) (l.drop k) true
  rw [List.take_append_drop] at h
  rw [h, pcsB_append, List.length_append]; omega
theorem toks_at {w : World} {l : List Tok} {a : Option Addr} {n c : Nat} (h : IsToks w l a n c) {k : Nat} (hk : k < l.length) : ∃ b off, a = some ⟨b, off, none⟩ ∧ w.cell? ⟨b, off + k * 4, none⟩ = some (.int .i64 l[k].kind) ∧ w.cell? ⟨b, off + k * 4 + 1, none⟩ = some (.string l[k].text) ∧ w.cell? ⟨b, off + k * 4 + 2, none⟩ = some (.int .i64 l[k].num) ∧ w.cell? ⟨b, off + k * 4 + 3, none⟩ = some (.int .i64 l[k].pos) := by
  obtain ⟨b, off, e, hc⟩ := h.2.2.2 k hk
  exact ⟨b, off, e, hc 0 (by simp [tokCells]), hc 1 (by simp [tokCells]), hc 2 (by simp [tokCells]), hc 3 (by simp [tokCells])⟩

set_option maxRecDepth 100000 in
set_option maxHeartbeats 2000000 in
theorem join_calls (l : List Tok) (a : Option Addr) (n c : Nat) (w : World) (ht : IsToks w l a n c) (hg : ∀ t ∈ l, goodT t) (hn : n ≤ 4000) (hb : (pcsB (joinPc true l)).length ≤ 16384) :
    Calls Tryz.prog 25 #[.slice a n c] w (JoinQ (pcsB (joinPc true l)) 0 w) := by
  have HT := Lib.hid ht
  have HN := Lib.hid ht.1
  have HGD := Lib.hid hg
  have HBL := Lib.hid hb
  clear ht hg hb
  go_enter Tryz.func25, Tryz.ntmps25
  go_wp2_with fail
  go_loopg [4, 5, 6] n (fun g o s i wr => ∃ k : Nat, k ≤ n ∧ g = n - k ∧ i = .int .i64 k ∧ o = bstr (pcsB (joinPc true (l.take k))) ∧ s = .bool (gluedA true (l.take k)) ∧ Ext w wr)
  case atStart => exact ⟨0, by omega, rfl, rfl, rfl, rfl, Ext.refl w⟩
  case round =>
    obtain ⟨k, hk, hgk, rfl, rfl, rfl, hx⟩ := hrel
    have HGN := Lib.hid hgk
    have HX := Lib.hid hx
    clear hgk hx
    by_cases hlt : k < n
    · have hlt' : k < l.length := by have := HN.out; omega
      have t1 : decide ((k : Int) < (n : Int)) = true := by simp; omega
      obtain ⟨b, off, rfl, h0, h1, h2, h3⟩ := toks_at HT.out hlt'
      replace h0 := HX.out.cell h0
      replace h1 := HX.out.cell h1
      replace h2 := HX.out.cell h2
      replace h3 := HX.out.cell h3
      have HE := Lib.hid (show l.take (k + 1) = l.take k ++ [l[k]] by simp)
      have HW := Lib.hid (written_calls l[k] (HGD.out _ (List.getElem_mem hlt')))
      unfold tokV at HW
      have HPC := Lib.hid (show pcsB (joinPc true (l.take (k + 1))) = pcsB (joinPc true (l.take k)) ++ ((if !gluedA true (l.take k) && !closes (tokB l[k]) then [32] else []) ++ tokB l[k]) by rw [HE.out, pcs_snoc])
      have HGL := Lib.hid (show gluedA true (l.take (k + 1)) = (tokB l[k] == [40]) by rw [HE.out, gluedA_snoc])
      have hlen : (pcsB (joinPc true (l.take k))).length ≤ 16384 := Nat.le_trans (pcs_take l k) HBL.out
      have hlen2 : (tokB l[k]).length ≤ 16384 := by
        have h1 := Nat.le_trans (pcs_take l (k + 1)) HBL.out
        rw [HPC.out, List.length_append, List.length_append] at h1
        omega
      go_wp2_with fail
      refine (HW.out _).mono ?_
      rintro r w1 ⟨rfl, hx1⟩
      have HX1 := Lib.hid (HX.out.trans hx1)
      clear hx1 h0 h1 h2 h3
      generalize pcsB (joinPc true (l.take k)) = O at *
      generalize tokB l[k] = T at *
      generalize gluedA true (l.take k) = G at *
      unfold bstr
      go_upto_region 10 with fail
      go_cut [46] (fun s46 wx => s46 = .bool (!G && !closes T) ∧ w1 = wx)
      case first =>
        have hl : (⟨T.toArray⟩ : ByteArray).toList = T := by rw [ByteArray.toList_eq]
        have HC := Lib.hid (show closes T = (T == [59] || T == [58] || T == [44] || T == [41]) from rfl)
        cases G with
        | true =>
          go_wp2_with fail
          go_meet
          case rel => exact ⟨rfl, rfl⟩
        | false =>
          cases h59 : (T == [59]) with
          | true =>
            have HP := Lib.hid (show (!false && !closes T) = false by rw [HC.out, h59]; rfl)
            go_wp2_with fail
            go_meet
            case rel => exact ⟨by rw [HP.out], rfl⟩
          | false =>
          cases h58 : (T == [58]) with
          | true =>
            have HP := Lib.hid (show (!false && !closes T) = false by rw [HC.out, h59, h58]; rfl)
            go_wp2_with fail
            go_meet
            case rel => exact ⟨by rw [HP.out], rfl⟩
          | false =>
          cases h44 : (T == [44]) with
          | true =>
            have HP := Lib.hid (show (!false && !closes T) = false by rw [HC.out, h59, h58, h44]; rfl)
            go_wp2_with fail
            go_meet
            case rel => exact ⟨by rw [HP.out], rfl⟩
          | false =>
            have HP := Lib.hid (show (!false && !closes T) = !(T == [41]) by rw [HC.out, h59, h58, h44]; rfl)
            cases h41 : (T == [41]) with
            | true =>
              rw [h41] at HP
              go_wp2_with fail
              go_meet
              case rel => exact ⟨by rw [HP.out]; rfl, rfl⟩
            | false =>
              rw [h41] at HP
              go_wp2_with fail
              go_meet
              case rel => exact ⟨by rw [HP.out]; rfl, rfl⟩
      case rest =>
        obtain ⟨rfl, rfl⟩ := hcut
        have HA1 := Lib.hid (app_str O [32])
        have HA2 := Lib.hid (app_str O T)
        have HA3 := Lib.hid (app_str (O ++ [32]) T)
        have hl : (⟨T.toArray⟩ : ByteArray).toList = T := by rw [ByteArray.toList_eq]
        cases hsp : (!G && !closes T) with
        | true =>
          have HPC2 := Lib.hid (show pcsB (joinPc true (l.take (k + 1))) = O ++ [32] ++ T by rw [HPC.out, hsp]; simp)
          clear HPC hsp
          go_wp2_with fail
          go_roundg (n - (k + 1))
          case measure => have := HGN.out; omega
          case rel => exact ⟨k + 1, by omega, rfl, by go_num, by rw [HPC2.out, bstr, ← HA3.out, ← HA1.out], by rw [HGL.out], HX1.out⟩
        | false =>
          have HPC2 := Lib.hid (show pcsB (joinPc true (l.take (k + 1))) = O ++ T by rw [HPC.out, hsp]; simp)
          clear HPC hsp
          go_wp2_with fail
          go_roundg (n - (k + 1))
          case measure => have := HGN.out; omega
          case rel => exact ⟨k + 1, by omega, rfl, by go_num, by rw [HPC2.out, bstr, ← HA2.out], by rw [HGL.out], HX1.out⟩
    · have HE2 := Lib.hid (show l.take k = l from List.take_of_length_le (by have := HN.out; omega))
      have t1 : decide ((k : Int) < (n : Int)) = false := by simp; omega
      have hlen : (pcsB (joinPc true (l.take k))).length ≤ 16384 := Nat.le_trans (pcs_take l k) HBL.out
      rw [HE2.out] at hlen ⊢
      unfold bstr
      generalize pcsB (joinPc true l) = O at *
      have tO : decide (16384 < (O.length : Int)) = false := by simp; omega
      have tO2 : decide (16384 < O.length) = false := by simp; omega
      go_wp2_with fail
      refine bodyPost_ret (v := .tuple #[bstr O, .int .i64 0]) (by simp [results, Tryz.results25, go_sem, bstr]) rfl ⟨rfl, HX.out⟩
end Go.Proofs.YtaepiiediblleaaGreatDoor

namespace Go.Proofs.YtaepiiediblleaaGreatDoor
open Go.RowKit

/-- The library's table of powers of ten lies where the program has it. -/
def HasTab (w : World) : Prop := Lib.TabIs Tryz.prog w "internal/strconv.uint64pow10" .u64 Lib.pow10Tab
theorem gTab : Tryz.prog.globalNamed "internal/strconv.uint64pow10" = some 2 := by kernel_rfl
theorem HasTab.ext {w w' : World} (h : HasTab w) (he : Ext w w') : HasTab w' := Go.Joins.tab_stays gTab h he (Nat.le_refl _)
theorem decDigits_digs : (f n : Nat) → n < 10 ^ f → 0 < f → Lib.decDigits n = digs f n
  | 0, n, _, h => by omega
  | f + 1, n, h, _ => by
    rw [Lib.decDigits, digs]
    by_cases hn : n < 10
    · rw [dif_pos hn, if_pos hn]
    · rw [dif_neg hn, if_neg hn]
      have h1 : n / 10 < 10 ^ f := by rw [Nat.pow_succ] at h; omega
      have h2 : 0 < f := by
        rcases Nat.eq_zero_or_pos f with rfl | hf
        · simp at h; omega
        · exact hf
      rw [decDigits_digs f (n / 10) h1 h2]
theorem itoa_decB {n : Int} (h1 : -17592186044416 ≤ n) (h2 : n ≤ 17592186044416) : Lib.itoa n = decB n := by
  rw [Lib.itoa, decB]
  have h3 : n.natAbs < 10 ^ 20 := by omega
  split
  · rw [decDigits_digs 20 _ h3 (by omega)]
  · rw [show n.toNat = n.natAbs by omega, decDigits_digs 20 _ h3 (by omega)]
theorem ext_grow (w : World) (k : Nat) (os : Array Obj) : Ext w (Go.Sort.grow (w.drewN k) os) := by
  refine Ext.trans (Ext.drewN (Ext.refl w) k) ?_
  generalize w.drewN k = W
  refine ⟨rfl, rfl, rfl, by simp [Go.Sort.grow], fun i hi => ?_⟩
  simp [Go.Sort.grow, Array.getElem?_append_left hi]
theorem itoa_calls (n : Int) (h1 : -17592186044416 ≤ n) (h2 : n ≤ 17592186044416) (w : World) (ht : HasTab w) : Calls Tryz.prog 92 #[.int .i64 n] w (GivesE (bstr (decB n)) w) := by
  refine (Tryz.strconv_Itoa n (by omega) (by omega) w ht).mono ?_
  rintro e w' ⟨rfl, k, os, rfl⟩
  exact ⟨by rw [itoa_decB h1 h2]; rfl, ext_grow w k os⟩

theorem smarkB_calls (c : Int) (w : World) : Calls Tryz.prog 94 #[.int .u8 c] w (Gives (.bool (markB c)) w) := mark_calls c w

set_option maxRecDepth 100000 in
set_option maxHeartbeats 2000000 in
theorem swritten_calls (t : Tok) (hg : goodT t) (w : World) (htab : HasTab w) : Calls Tryz.prog 62 #[tokV t] w (WrittenQ (tokB t) w) := by
  obtain ⟨hp, hg⟩ := hg
  clear hp
  obtain ⟨h1, h2, h3⟩ | ⟨h1, h2, h3, h4⟩ | ⟨h1, h4, c, h2, h3⟩ := hg
  · have HE := Lib.hid (show bstr (tokB t) = .string t.text by rw [tokB, if_neg (by omega)]; simp [bstr])
    have HW := Lib.hid h2
    have hsz : t.text.size ≤ 1000000000000000 := by simp only [wordB, Bool.and_eq_true, decide_eq_true_eq] at h2; have := h2.1.1.1.2; omega
    have HX := Lib.hid ((Ext.refl w).alloc (.cells #[.int .i64 1, .string t.text, .int .i64 0, .int .i64 t.pos] 73))
    unfold tokV
    rw [h1, h3]
    clear h1 h2 h3 htab
    go_enter Tryz.func62, Tryz.ntmps62
    go_wp2_with fail
    refine (word_calls _ _ hsz).mono ?_
    rintro r w1 ⟨rfl, rfl⟩
    rw [HW.out]
    go_wp2_with fail
    go_ret2
    exact ⟨by rw [HE.out]; rfl, HX.out⟩
  · have HE := Lib.hid (show bstr (tokB t) = bstr (decB t.num) by rw [tokB, if_pos h1])
    have HX := Lib.hid ((Ext.refl w).alloc (.cells #[.int .i64 2, .string ⟨#[]⟩, .int .i64 t.num, .int .i64 t.pos] 73))
    have HC := Lib.hid (itoa_calls t.num h3 h4 _ (htab.ext HX.out))
    have t1 : decide (t.num < -17592186044416) = false := by simp; omega
    have t2 : decide (17592186044416 < t.num) = false := by simp; omega
    unfold tokV
    rw [h1, h2]
    clear h1 h2 h3 h4 htab
    go_enter Tryz.func62, Tryz.ntmps62
    go_wp2_with fail
    refine HC.out.mono ?_
    rintro r w1 ⟨rfl, hx⟩
    have HX1 := Lib.hid (HX.out.trans hx)
    clear hx
    unfold bstr
    go_wp2_with fail
    go_ret2
    exact ⟨by rw [HE.out]; rfl, HX1.out⟩
  · have HE := Lib.hid (show bstr (tokB t) = .string ⟨#[c]⟩ by rw [tokB, if_neg (by omega), h2]; rfl)
    have HX := Lib.hid ((Ext.refl w).alloc (.cells #[.int .i64 4, .string ⟨#[c]⟩, .int .i64 0, .int .i64 t.pos] 73))
    have HM := Lib.hid h3
    unfold tokV
    rw [h1, h2, h4]
    clear h1 h2 h3 h4 htab
    go_enter Tryz.func62, Tryz.ntmps62
    go_wp2_with fail
    refine (mark_calls _ _).mono ?_
    rintro r w1 ⟨rfl, rfl⟩
    rw [show ∀ h, (((⟨#[c]⟩ : ByteArray)[0]'h).toNat : Int) = (c.toNat : Int) from fun _ => rfl, HM.out]
    go_wp2_with fail
    go_ret2
    exact ⟨by rw [HE.out]; rfl, HX.out⟩

/-- Whether there is a blank between two tokens. -/
def apartB (p t : Tok) : Bool := if (p.kind == 4 && p.text.toList == [40]) then false else (t.kind != 4 || t.text.toList == [40])
theorem toList_data (x : ByteArray) : x.toList = x.data.toList := ByteArray.toList_eq x
theorem good_open {p : Tok} (h : goodT p) : (p.kind == 4 && p.text.toList == [40]) = (tokB p == [40]) := by
  rw [Bool.eq_iff_iff]
  simp only [Bool.and_eq_true, beq_iff_eq]
  constructor
  · rintro ⟨h1, h2⟩
    rw [tokB, if_neg (by omega), ← toList_data, h2]
  · intro h1
    have h2 := good_mark h h1 (by decide)
    rw [tokB, if_neg (by omega), ← toList_data] at h1
    exact ⟨h2, h1⟩
theorem good_closes {t : Tok} (h : goodT t) : (t.kind != 4 || t.text.toList == [40]) = !closes (tokB t) := by
  have h' := h
  obtain ⟨_, ⟨h1, h2, h3⟩ | ⟨h1, h2, h3, h4⟩ | ⟨h1, h4, d, h2, h3⟩⟩ := h
  case inr.inr =>
    have e1 : tokB t = [d] := by rw [tokB, if_neg (by omega), h2]
    have e2 : t.text.toList = [d] := by rw [toList_data, h2]
    rw [e1, e2, h1]
    have hd : d = 59 ∨ d = 58 ∨ d = 44 ∨ d = 40 ∨ d = 41 := by
      have : d.toNat = 59 ∨ d.toNat = 58 ∨ d.toNat = 44 ∨ d.toNat = 40 ∨ d.toNat = 41 := by simp [markB] at h3; omega
      rcases this with h | h | h | h | h
      · exact Or.inl (toNat_inj h)
      · exact Or.inr (Or.inl (toNat_inj h))
      · exact Or.inr (Or.inr (Or.inl (toNat_inj h)))
      · exact Or.inr (Or.inr (Or.inr (Or.inl (toNat_inj h))))
      · exact Or.inr (Or.inr (Or.inr (Or.inr (toNat_inj h))))
    rcases hd with rfl | rfl | rfl | rfl | rfl <;> decide
  all_goals
    have hk : t.kind ≠ 4 := by omega
    have hc : closes (tokB t) = false := by
      cases hc : closes (tokB t)
      · rfl
      · exfalso
        simp only [closes, Bool.or_eq_true, beq_iff_eq] at hc
        rcases hc with ((hc | hc) | hc) | hc <;> exact hk (good_mark h' hc (by decide))
    rw [hc]
    simp [hk]
theorem apart_pcs {p t : Tok} (hp : goodT p) (ht : goodT t) : apartB p t = (!(tokB p == [40]) && !closes (tokB t)) := by
  rw [apartB, good_open hp, good_closes ht]
  cases (tokB p == [40]) <;> simp

set_option maxRecDepth 100000 in
set_option maxHeartbeats 1000000 in
theorem sapart_calls (p t : Tok) (w : World) : Calls Tryz.prog 63 #[tokV p, tokV t] w (GivesE (.bool (apartB p t)) w) := by
  have HX := Lib.hid (((Ext.refl w).alloc (.cells #[.int .i64 p.kind, .string p.text, .int .i64 p.num, .int .i64 p.pos] 73)).alloc (.cells #[.int .i64 t.kind, .string t.text, .int .i64 t.num, .int .i64 t.pos] 73))
  have HA := Lib.hid (show apartB p t = if (p.kind == 4 && p.text.toList == [40]) then false else (t.kind != 4 || t.text.toList == [40]) from rfl)
  generalize apartB p t = B at *
  unfold tokV
  cases h1 : (p.kind == 4) <;> cases h2 : (p.text.toList == [40]) <;> cases h3 : (t.kind != 4)
  all_goals
    have HB := Lib.hid (HA.out.trans (by rw [h1, h2, h3]))
    simp only [Bool.and_true, Bool.and_false, Bool.false_eq_true, if_false, if_true, Bool.true_or, Bool.false_or] at HB
    clear HA
    go_enter Tryz.func63, Tryz.ntmps63
    go_wp2_with fail
    go_ret
    exact givesE_bool (by rw [HB.out]) HX.out
end Go.Proofs.YtaepiiediblleaaGreatDoor

namespace Go.Proofs.YtaepiiediblleaaGreatDoor
open Go.ChangeShapes Go.WideShapes Go.ChangeAt Go.WideMaps Go.WideElems Go.RowKit

theorem tTab : (Tryz.prog.globals[2]?).map (·.type) = some 161 := by kernel_rfl
theorem uTab : Tryz.prog.underlying 161 = some (.array 20 149) := by kernel_rfl
theorem uU64 : Tryz.prog.underlying 149 = some (.int .u64) := by kernel_rfl
theorem cU64 : Tryz.prog.cellsOf 149 = 1 := by kernel_rfl
theorem cTab : Tryz.prog.cellsOf 161 = 20 := by kernel_rfl
theorem tabData_is {H : Type} : (Rows.laid_internal_strconv_uint64pow10 : DataW H) = Lib.tabData .u64 Lib.pow10Tab := by kernel_rfl
set_option maxRecDepth 100000 in
/-- What the condition on the package's table gives. -/
theorem hasOps_of_laid {W : World} (h : laidMetH Tryz.prog Rows.syntaxBackRow.laid W) : HasOps W ∧ HasTab W := by
  rw [MakeChecks.laidMetH_plain _ _ _ (by kernel_rfl)] at h
  obtain ⟨ps, ⟨ga, ta, csa, fa, pa, qa, hga, hta, hva, hda, ⟨gb, tb, csb, fb, pb, qb, hgb, htb, hvb, hdb, ⟨gc, tc, csc, fc, pc, qc, hgc, htc, hvc, hdc, ⟨g0, t0, cs0, f0, p0, q0, hg0, ht0, hv0, hd0, ⟨g1, t1, cs1, f1, p1, q1, hg1, ht1, hv1, hd1, _, _⟩, _⟩, _⟩, _⟩, _⟩, _, _⟩ := h
  have hT : HasTab W := by
    obtain rfl := Option.some.inj (gTab.symm.trans hgc)
    obtain rfl := Option.some.inj (tTab.symm.trans htc)
    unfold HasTab Lib.TabIs
    rw [hvc, ← Lib.cells_of_tab (zs := Lib.pow10Tab) uTab uU64 cU64 cTab (by rw [← tabData_is]; exact hdc)]
  refine ⟨?_, hT⟩
  clear hT hda hdb hdc hd0 hva hvb hvc hv0
  obtain rfl := Option.some.inj (gOps.symm.trans hg1)
  obtain rfl := Option.some.inj (tOps.symm.trans ht1)
  obtain ⟨xs, m, rfl, hx, hlen, hn, hel⟩ := DataW.trod_array uOps hd1
  simp only [Prod.mk.injEq] at hx
  have hx1 := hx.1
  intro k hk
  have hD : (xs.map (·.1))[k]? = some (.agg [.lit (.string (opWord k).data.toList), .lit (.bool (opNamed k)), .lit (.int .i64 (opLeast k)), .lit (.int .i64 (opMost k)), .lit (.int .i64 (opBinds k))]) := by
    unfold Rows.laid_treaty_syntax_operators at hx1
    injection hx1 with hx1
    rw [← hx1]
    have hk' : k = 0 ∨ k = 1 ∨ k = 2 ∨ k = 3 ∨ k = 4 ∨ k = 5 ∨ k = 6 ∨ k = 7 ∨ k = 8 := by omega
    rcases hk' with rfl | rfl | rfl | rfl | rfl | rfl | rfl | rfl | rfl <;> rfl
  rw [List.getElem?_map] at hD
  have hek := hel k hk
  cases hy : xs[k]? with
  | none => rw [hy] at hD; cases hD
  | some y =>
    rw [hy] at hD hek
    simp only [Option.map_some, Option.some.injEq] at hD
    rw [cOp] at hek
    have hc := op_cells hek hD
    have key : ∀ j, j < 5 → W.cell? ⟨0, k * 5 + j, none⟩ = ([.string (opWord k), .bool (opNamed k), .int .i64 (opLeast k), .int .i64 (opMost k), .int .i64 (opBinds k)] : List Value)[j]? := by
      intro j hj
      have e1 : (⟨(opWord k).data.toList.toArray⟩ : ByteArray) = opWord k := by simp
      rw [World.var?_cell hg1 hv1 (k * 5 + j), ← e1, ← hc, List.getElem?_take, if_pos hj, List.getElem?_drop]
      simp
    have k0 := key 0 (by omega)
    rw [Nat.add_zero] at k0
    exact ⟨k0, key 1 (by omega), key 2 (by omega), key 3 (by omega), key 4 (by omega)⟩
end Go.Proofs.YtaepiiediblleaaGreatDoor

namespace Go.Proofs.YtaepiiediblleaaGreatDoor
open Go.RowKit

/-! The law of XGrow for regions with guarded operations, where every guard is met: what the guards look at is known. -/
/-- An edge by which a value goes. -/
def isDataG (e : Edge) : Bool := match e.ground with | .data => true | .guard => true | _ => false
/-- What is asked of the operations below m: no guard, no select; they look at slots of operations alone that come before them; the m-th (if there is one) comes last. -/
def okGrowG (ops : Array Oper) (m n : Nat) : Bool :=
  Region.noSelect ops && decide (m ≤ ops.size) && decide (ops.size ≤ m + 1) &&
  ((List.range ops.size).all fun i => (List.range ops.size).all fun j => i == j || dstAt ops i == none || dstAt ops i != dstAt ops j) &&
  ((List.range ops.size).all fun i => match ops[i]? with
    | none => false
    | some o => ((match o.guard with | none => true | some (j, _) => (match dstAt ops j with | none => false | some t => decide (t < n)) && o.after.any (fun e => isDataG e && e.on == j)) || i == m) && (o.after.all fun e => (!Region.binds .any e || decide (e.on < i)) && (!isDataG e || Region.binds .any e)) &&
      ((List.range m).all fun j => match dstAt ops j with
        | none => true
        | some t => !(o.looksAt ops).contains t || (i == m) || o.after.any (fun e => Region.binds .any e && e.on == j)) &&
      (i != m || (List.range m).all fun j => o.after.any (fun e => Region.binds .any e && e.on == j)))

theorem okGrow_specG {ops : Array Oper} {m n : Nat} (h : okGrowG ops m n = true) : Region.noSelect ops = true ∧ m ≤ ops.size ∧ ops.size ≤ m + 1 ∧ DstApart ops ∧
    (∀ i o, ops[i]? = some o → (i < m → ∀ j b, o.guard = some (j, b) → ∃ t, dstAt ops j = some t ∧ t < n ∧ ∃ e ∈ o.after, isDataG e = true ∧ e.on = j) ∧ (∀ e ∈ o.after, (Region.binds .any e = true → e.on < i) ∧ (isDataG e = true → Region.binds .any e = true)) ∧ (i < m → ∀ j t, j < m → dstAt ops j = some t → t ∈ o.looksAt ops → ∃ e ∈ o.after, Region.binds .any e = true ∧ e.on = j) ∧
      (i = m → ∀ j, j < m → ∃ e ∈ o.after, Region.binds .any e = true ∧ e.on = j)) := by
  simp only [okGrowG, Bool.and_eq_true, decide_eq_true_eq] at h
  obtain ⟨⟨⟨⟨h1, h2⟩, h3⟩, h4⟩, h5⟩ := h
  refine ⟨h1, h2, h3, ?_, ?_⟩
  · intro i j d hi hj
    have li : i < ops.size := by
      unfold dstAt at hi
      rcases Nat.lt_or_ge i ops.size with h | h
      · exact h
      · rw [Array.getElem?_eq_none h] at hi; simp at hi
    have lj : j < ops.size := by
      unfold dstAt at hj
      rcases Nat.lt_or_ge j ops.size with h | h
      · exact h
      · rw [Array.getElem?_eq_none h] at hj; simp at hj
    have := List.all_eq_true.1 (List.all_eq_true.1 h4 i (by simpa using li)) j (by simpa using lj)
    simpa [hi, hj] using this
  · intro i o ho
    have li : i < ops.size := (Array.getElem?_eq_some_iff.1 ho).1
    have h6 := List.all_eq_true.1 h5 i (by simpa using li)
    simp only [ho, Bool.and_eq_true] at h6
    obtain ⟨⟨⟨g1, g2⟩, g3⟩, g4⟩ := h6
    refine ⟨fun hm => ?_, fun e he => ?_, fun hm j t hjm hj ht => ?_, fun hm j hj => ?_⟩
    · intro j b hg
      rcases Bool.or_eq_true_iff.1 g1 with g | g
      · rw [hg] at g
        simp only [Bool.and_eq_true] at g
        cases hd : dstAt ops j with
        | none => rw [hd] at g; simp at g
        | some t =>
          rw [hd] at g
          obtain ⟨e, he, hb⟩ := Array.any_eq_true'.1 g.2
          simp only [Bool.and_eq_true, beq_iff_eq] at hb
          exact ⟨t, rfl, by simpa using g.1, e, he, hb.1, hb.2⟩
      · have : i = m := by simpa using g
        omega
    · have := Array.all_eq_true_iff_forall_mem.1 g2 e he
      simp only [Bool.and_eq_true, Bool.or_eq_true, Bool.not_eq_true', decide_eq_true_eq] at this
      refine ⟨fun hb => ?_, fun hb => ?_⟩
      · rcases this.1 with h | h
        · rw [hb] at h; cases h
        · exact h
      · rcases this.2 with h | h
        · rw [hb] at h; cases h
        · exact h
    · have := List.all_eq_true.1 g3 j (by simpa using hjm)
      rw [hj] at this
      simp only [Bool.or_eq_true, Bool.not_eq_true'] at this
      rcases this with (h | h) | h
      · rw [List.contains_iff_mem.2 ht] at h; cases h
      · have : i = m := by simpa using h
        omega
      · obtain ⟨e, he, hb⟩ := Array.any_eq_true'.1 h
        simp only [Bool.and_eq_true, beq_iff_eq] at hb
        exact ⟨e, he, hb.1, hb.2⟩
    · subst hm
      rcases Bool.or_eq_true_iff.1 g4 with g | g
      · simp at g
      · have := List.all_eq_true.1 g j (by simpa using hj)
        obtain ⟨e, he, hb⟩ := Array.any_eq_true'.1 this
        simp only [Bool.and_eq_true, beq_iff_eq] at hb
        exact ⟨e, he, hb.1, hb.2⟩

/-- Operation c looks at what operation i left. -/
def looksToG (ops : Array Oper) (c i : Nat) : Bool := match ops[c]? with | none => false | some o => o.after.any fun e => isDataG e && e.on == i
/-- What operation i left must outlast operation k. -/
def outlastsG (ops : Array Oper) (m : Nat) (Kp : List Nat) (i k : Nat) : Bool := !comesAfter ops m i k && (Kp.contains i || (List.range m).any fun c => c != k && !comesAfter ops m k c && looksToG ops c i)

section
variable {P : Program} {ops : Array Oper} {Q : Exit → Act → World → Prop} {a : Act} {m : Nat} (Kp : List Nat) (G : List Nat → (Nat → Value) → World → Prop) (E : Nat → World → World → Prop) (R : Nat → Value → World → Prop)

theorem wpAny_growG {n : Nat} (hok : okGrowG ops m n = true) (hN : n ≤ a.tmps.size) (hGd : ∀ i o j b, i < m → ops[i]? = some o → o.guard = some (j, b) → ∀ v W, R j v W → v = .bool b) (hRE : ∀ i k v W W', i < m → k < m → i ≠ k → outlastsG ops m Kp i k = true → R i v W → E k W W' → R i v W')
    (hstep : ∀ i o, i < m → ops[i]? = some o → ∀ L vs W, i ∉ L → (∀ j ∈ L, comesAfter ops m j i = false) → G L vs W → (∀ e ∈ o.after, isDataG e = true → R e.on (vs e.on) W) → ∀ ρ, Sees ops a m vs ρ → GivesOp P o ρ W (fun v W' => E i W W' ∧ G (L ++ [i]) (upd vs i v) W' ∧ R i v W'))
    (hend : ∀ L vs W, (∀ j, j < m → j ∈ L) → G L vs W → (∀ j ∈ Kp, j < m → R j (vs j) W) → if m = ops.size then Q .normal (acts ops a vs (List.range m)) W else wpOp P ops Q m (fun a w => Q .normal a w) (acts ops a vs (List.range m)) W) :
    ∀ (fuel : Nat) (L : List Nat) (vs : Nat → Value) (W : World) (listed : Array Bool), listed.size = ops.size → (∀ j, j < ops.size → (listed.getD j true = true ↔ j ∈ L)) → L.Nodup → (∀ j ∈ L, j < m) → ((List.range ops.size).filter (fun j => !L.contains j)).length ≤ fuel → G L vs W → (∀ i ∈ L, ∀ o, ops[i]? = some o → ∀ e ∈ o.after, Region.binds .any e = true → e.on ∈ L) → (∀ j ∈ L, (j ∈ Kp ∨ ∃ c, c < m ∧ c ∉ L ∧ looksToG ops c j = true) → R j (vs j) W) →
      wpAny P .any ops Q fuel listed (acts ops a vs L) W := by
  obtain ⟨hns, hm1, hm2, hda, hspec⟩ := okGrow_specG hok
  have hperm : ∀ L : List Nat, L.Nodup → (∀ j ∈ L, j < m) → (∀ j, j < m → j ∈ L) → L.Perm (List.range m) := fun L h1 h2 h3 =>
    (List.perm_ext_iff_of_nodup h1 List.nodup_range).2 (fun j => ⟨fun h => by simpa using h2 j h, fun h => h3 j (by simpa using h)⟩)
  -- all below m are listed if none of them is ready
  have hall : ∀ (L : List Nat) (listed : Array Bool), listed.size = ops.size → (∀ j, j < ops.size → (listed.getD j true = true ↔ j ∈ L)) → (∀ j ∈ Region.ready .any ops listed, ¬ j < m) → ∀ j, j < m → j ∈ L := by
    intro L listed hsz hL hr j
    induction j using Nat.strongRecOn with
    | _ j ih =>
      intro hj
      by_cases hjL : j ∈ L
      · exact hjL
      · exfalso
        refine hr j ?_ hj
        have hjs : j < ops.size := by omega
        rw [mem_ready]
        obtain ⟨o, ho⟩ : ∃ o, ops[j]? = some o := ⟨ops[j], Array.getElem?_eq_getElem hjs⟩
        refine ⟨?_, o, ho, fun e he hb => ?_⟩
        · cases hx : listed.getD j true
          · rfl
          · exact absurd ((hL j hjs).1 hx) hjL
        · have hlt := ((hspec j o ho).2.1 e he).1 hb
          have hm := ih e.on hlt (by omega)
          have := (hL e.on (by omega)).2 hm
          have hin : e.on < listed.size := by rw [hsz]; omega
          simpa [Array.getD, hin] using this
  -- what is asked when all below m are listed
  have hfin : ∀ (L : List Nat) (vs : Nat → Value) (W : World), L.Nodup → (∀ j ∈ L, j < m) → (∀ j, j < m → j ∈ L) → G L vs W → (∀ j ∈ L, (j ∈ Kp ∨ ∃ c, c < m ∧ c ∉ L ∧ looksToG ops c j = true) → R j (vs j) W) →
      if m = ops.size then Q .normal (acts ops a vs L) W else wpOp P ops Q m (fun a w => Q .normal a w) (acts ops a vs L) W := by
    intro L vs W hnd hLm hcov hE hR
    rw [acts_perm hda (hperm L hnd hLm hcov)]
    exact hend L vs W hcov hE (fun j hk hj => hR j (hcov j hj) (Or.inl hk))
  intro fuel
  induction fuel with
  | zero =>
    intro L vs W listed hsz hL hnd hLm hlen hE hcl hR
    have hcov : ∀ j, j < ops.size → j ∈ L := fun j hj => by
      have h0 := List.eq_nil_of_length_eq_zero (Nat.le_zero.1 hlen)
      have : j ∉ (List.range ops.size).filter (fun j => !L.contains j) := by rw [h0]; simp
      simpa [hj] using this
    have hmn : m = ops.size := by
      rcases Nat.lt_or_ge m ops.size with h | h
      · have := hLm m (hcov m h); omega
      · omega
    have hf := hfin L vs W hnd hLm (fun j hj => hcov j (by omega)) hE hR
    rw [if_pos hmn] at hf
    refine ⟨?_, hf⟩
    rw [List.eq_nil_iff_forall_not_mem]
    intro j hj
    obtain ⟨h0, o, ho, _⟩ := mem_ready.1 hj
    have := (hL j (Array.getElem?_eq_some_iff.1 ho).1).2 (hcov j (Array.getElem?_eq_some_iff.1 ho).1)
    rw [this] at h0; cases h0
  | succ fuel ih =>
    intro L vs W listed hsz hL hnd hLm hlen hE hcl hR
    refine ⟨fun hr => ?_, fun i hi => ?_⟩
    · have hcov := hall L listed hsz hL (by rw [hr]; simp)
      have hf := hfin L vs W hnd hLm hcov hE hR
      by_cases hmn : m = ops.size
      · rw [if_pos hmn] at hf; exact hf
      · exfalso
        have hms : m < ops.size := by omega
        have : m ∈ Region.ready .any ops listed := by
          rw [mem_ready]
          obtain ⟨o, ho⟩ : ∃ o, ops[m]? = some o := ⟨ops[m], Array.getElem?_eq_getElem hms⟩
          refine ⟨?_, o, ho, fun e he hb => ?_⟩
          · cases hx : listed.getD m true
            · rfl
            · have := hLm m ((hL m hms).1 hx); omega
          · have hlt := ((hspec m o ho).2.1 e he).1 hb
            have := (hL e.on (by omega)).2 (hcov e.on hlt)
            have hin : e.on < listed.size := by rw [hsz]; omega
            simpa [Array.getD, hin] using this
        rw [hr] at this
        simp at this
    · obtain ⟨h0, o, ho, hdep⟩ := mem_ready.1 hi
      have his : i < ops.size := (Array.getElem?_eq_some_iff.1 ho).1
      have hiL : i ∉ L := fun h => by rw [(hL i his).2 h] at h0; cases h0
      have hdepL : ∀ e ∈ o.after, Region.binds .any e = true → e.on ∈ L := fun e he hb => by
        have h1 := hdep e he hb
        have hlt := ((hspec i o ho).2.1 e he).1 hb
        have hin : e.on < listed.size := by rw [hsz]; omega
        exact (hL e.on (by omega)).1 (by simpa [Array.getD, hin] using h1)
      have hlist : ∀ j, j < ops.size → ((listed.setIfInBounds i true).getD j true = true ↔ j ∈ L ++ [i]) := fun j hj => by
        by_cases hij : i = j
        · subst hij; simp [hsz, his]
        · rw [getD_set_ne true hij, hL j hj]; simp; intro e; exact absurd e.symm hij
      by_cases him : i < m
      · -- one of the operations that make memory
        have hnc : ∀ j ∈ L, comesAfter ops m j i = false := fun j hj => by
          cases hx : comesAfter ops m j i
          · rfl
          · exact absurd (comesAfter_mem hcl m j i hj hx) hiL
        have hg := hstep i o him ho L vs W hiL hnc hE (fun e he hb => hR _ (hdepL e he (((hspec i o ho).2.1 e he).2 hb)) (Or.inr ⟨i, him, hiL, by unfold looksToG; rw [ho]; exact Array.any_eq_true'.2 ⟨e, he, by simp [hb]⟩⟩)) _ (sees_acts hda a m vs)
        have hex : execOp (acts ops a vs L).eval o = execOp (acts ops a vs (List.range m)).eval o := by
          refine execOp_congr o (Region.noSelect_spec hns i o · · ho) (fun x hx => ?_)
          cases x with
          | tmp t =>
            have hlook : t ∈ o.looksAt ops := List.mem_append_left _ (List.mem_filterMap.2 ⟨.tmp t, by simpa using hx, rfl⟩)
            by_cases hex : ∃ j, j < m ∧ dstAt ops j = some t
            · obtain ⟨j, hjm, hj⟩ := hex
              obtain ⟨e, he, hb, rfl⟩ := (hspec i o ho).2.2.1 him j t hjm hj hlook
              have hjL := hdepL e he hb
              rw [acts_eval_in hda hjL hj, acts_eval_in hda (by simpa using hLm _ hjL) hj]
            · have h1 : ∀ j, j < m → dstAt ops j ≠ some t := fun j hjm hj => hex ⟨j, hjm, hj⟩
              rw [acts_eval_out (fun j hjL => h1 j (hLm j hjL)), acts_eval_out (fun j hjr => h1 j (by simpa using hjr))]
          | const v => rfl
          | global g => rfl
          | func f => rfl
        unfold wpOp
        simp only [ho]
        rw [if_pos (by
          unfold Region.wanted
          cases hgd : o.guard with
          | none => rfl
          | some p =>
            obtain ⟨j, b⟩ := p
            obtain ⟨t, ht, htn, e, he, heD, rfl⟩ := (hspec i o ho).1 him j b hgd
            have hjL := hdepL e he (((hspec i o ho).2.1 e he).2 heD)
            have hv := hGd i o e.on b him ho hgd _ _ (hR e.on hjL (Or.inr ⟨i, him, hiL, by unfold looksToG; rw [ho]; exact Array.any_eq_true'.2 ⟨e, he, by simp [heD]⟩⟩))
            have hev := acts_eval_in hda (a := a) (vs := vs) hjL ht
            rw [if_pos (Nat.lt_of_lt_of_le htn hN), hv] at hev
            have hlt : t < (acts ops a vs L).tmps.size := by rw [acts_size]; exact Nat.lt_of_lt_of_le htn hN
            show (yielded ops (acts ops a vs L).tmps e.on == some b) = true
            simp only [Act.eval] at hev
            unfold yielded
            have hdd : (ops[e.on]?).bind (·.dst) = some t := ht
            rw [hdd]
            simp only [Option.bind_some]
            rw [Array.getD_eq_getD_getElem?, Array.getElem?_eq_getElem hlt, Option.getD_some] at hev
            rw [Array.getElem?_eq_getElem hlt, hev]
            simp)]
        left
        refine Oper.wp_mono ?_ (hg.wp hex)
        rintro a' W' ⟨v, rfl, hEW, hE', hRv⟩
        have e1 : (acts ops a vs L).put o.dst v = acts ops a (upd vs i v) (L ++ [i]) := by
          rw [acts_snoc, acts_congr (vs := upd vs i v) (vs' := vs) (fun j hj => by unfold upd; rw [if_neg (fun e => hiL (by rw [← e]; exact hj))])]
          simp [upd, dstAt, ho]
        rw [e1]
        refine ih (L ++ [i]) (upd vs i v) W' _ (by simpa using hsz) hlist ?_ ?_ ?_ hE' ?_ ?_
        · rw [List.nodup_append]
          exact ⟨hnd, by simp, fun x hx y hy e => by simp at hy; subst hy; subst e; exact hiL hx⟩
        · intro j hj
          rcases List.mem_append.1 hj with h | h
          · exact hLm j h
          · simp at h; omega
        · have h1 : (List.range ops.size).filter (fun j => !(L ++ [i]).contains j) = ((List.range ops.size).filter (fun j => !L.contains j)).filter (fun j => j != i) := by
            rw [List.filter_filter]
            congr 1
            funext j
            simp only [List.contains_append, Bool.not_or]
            rw [Bool.and_comm]
            congr 1
            rw [Bool.eq_iff_iff]; simp [bne]
          have h2 : (((List.range ops.size).filter (fun j => !L.contains j)).filter (fun j => j != i)).length < ((List.range ops.size).filter (fun j => !L.contains j)).length := by
            rw [List.length_filter_lt_length_iff_exists]
            exact ⟨i, by simp [his, hiL], by simp⟩
          rw [h1]; omega
        · intro j hj o' ho' e he hb
          rcases List.mem_append.1 hj with h | h
          · exact List.mem_append_left _ (hcl j h o' ho' e he hb)
          · simp at h; subst h
            rw [ho] at ho'
            cases ho'
            exact List.mem_append_left _ (hdepL e he hb)
        · intro j hj hlive
          rcases List.mem_append.1 hj with h | h
          · have : upd vs i v j = vs j := by unfold upd; rw [if_neg (fun e => hiL (by rw [← e]; exact h))]
            rw [this]
            have hlive' : j ∈ Kp ∨ ∃ c, c < m ∧ c ∉ L ∧ looksToG ops c j = true := hlive.imp id (fun ⟨c, h1, h2, h3⟩ => ⟨c, h1, fun hc => h2 (List.mem_append_left _ hc), h3⟩)
            refine hRE j i _ W W' (hLm j h) him (fun e => hiL (e ▸ h)) ?_ (hR j h hlive') hEW
            unfold outlastsG
            rw [Bool.and_eq_true, Bool.not_eq_true', Bool.or_eq_true]
            refine ⟨?_, ?_⟩
            · cases hx : comesAfter ops m j i
              · rfl
              · exact absurd (comesAfter_mem hcl m j i h hx) hiL
            · rcases hlive with hk | ⟨c, h1, h2, h3⟩
              · exact Or.inl (List.contains_iff_mem.2 hk)
              · refine Or.inr (List.any_eq_true.2 ⟨c, by simpa using h1, ?_⟩)
                rw [h3, Bool.and_true, Bool.and_eq_true, bne_iff_ne, Bool.not_eq_true']
                refine ⟨fun e => by subst e; exact h2 (by simp), ?_⟩
                cases hx : comesAfter ops m i c
                · rfl
                · exact absurd (List.mem_append_left _ (comesAfter_ready hcl ho hdepL m c hx)) h2
          · simp at h; subst h; simpa [upd] using hRv
      · -- the last one
        obtain rfl : i = m := by omega
        have hcov : ∀ j, j < i → j ∈ L := fun j hj => by
          obtain ⟨e, he, hb, rfl⟩ := (hspec i o ho).2.2.2 rfl j hj
          exact hdepL e he hb
        have hf := hfin L vs W hnd hLm hcov hE hR
        rw [if_neg (by omega)] at hf
        refine wpOp_mono (fun a' W' hq => ?_) hf
        refine wpAny_done ?_ hq fuel
        rw [List.eq_nil_iff_forall_not_mem]
        intro j hj
        obtain ⟨h0', o', ho', _⟩ := mem_ready.1 hj
        have hjs := (Array.getElem?_eq_some_iff.1 ho').1
        have : j ∈ L ++ [i] := by
          by_cases hji : j < i
          · exact List.mem_append_left _ (hcov j hji)
          · have : j = i := by omega
            simp [this]
        rw [(hlist j hjs).2 this] at h0'; cases h0'

/-- A region whose operations (but for the last one) only make memory, in whatever order; what holds of the world may depend on what has been done. -/
theorem wp_region_growLG {id : Nat} {w : World} (hm : P.follows .mixedOrders = true) {n : Nat} (hok : okGrowG ops m n = true) (hN : n ≤ a.tmps.size) (hGd : ∀ i o j b, i < m → ops[i]? = some o → o.guard = some (j, b) → ∀ v W, R j v W → v = .bool b) (hG : G [] (fun _ => undef) w.drew) (hRE : ∀ i k v W W', i < m → k < m → i ≠ k → outlastsG ops m Kp i k = true → R i v W → E k W W' → R i v W')
    (hstep : ∀ i o, i < m → ops[i]? = some o → ∀ L vs W, i ∉ L → (∀ j ∈ L, comesAfter ops m j i = false) → G L vs W → (∀ e ∈ o.after, isDataG e = true → R e.on (vs e.on) W) → ∀ ρ, Sees ops a m vs ρ → GivesOp P o ρ W (fun v W' => E i W W' ∧ G (L ++ [i]) (upd vs i v) W' ∧ R i v W'))
    (hend : ∀ L vs W, (∀ j, j < m → j ∈ L) → G L vs W → (∀ j ∈ Kp, j < m → R j (vs j) W) → if m = ops.size then Q .normal (acts ops a vs (List.range m)) W else wpOp P ops Q m (fun a w => Q .normal a w) (acts ops a vs (List.range m)) W) :
    (Code.region id ops true).wp P Q a w := by
  refine wp_region_any hm ?_
  refine wpAny_growG Kp G E R hok hN hGd hRE hstep hend ops.size [] (fun _ => undef) _ _ (by simp) (fun j hj => ?_) List.nodup_nil (fun j hj => by simp at hj) ?_ hG (fun j hj => by simp at hj) (fun j hj => by simp at hj)
  · simp [hj]
  · exact Nat.le_trans (List.length_filter_le _ _) (by simp)
end
end Go.Proofs.YtaepiiediblleaaGreatDoor
