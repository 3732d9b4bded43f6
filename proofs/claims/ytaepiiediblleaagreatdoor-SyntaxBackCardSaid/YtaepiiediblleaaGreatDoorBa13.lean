/-
  Texts of the claim, joined: SJoin2, RTok2, RTok3, RTok4, RTok5.
-/
import Derived.Test.YtaepiiediblleaaGreatDoorBa12
import Derived.Test.YtaepiiediblleaaGreatDoorBa11
namespace Go.Proofs.YtaepiiediblleaaGreatDoor
open Go.RowKit

/-- What the program's Join gives. -/
def joinR (l : List Tok) : List UInt8 × Int := if 4000 < l.length then ([], 4) else if 16384 < (pcsB (joinPc true l)).length then ([], 4) else (pcsB (joinPc true l), 0)
theorem bld_ext {B b : Nat} {bs : List Value} {w w' : World} (h : Lib.IsBuilder 104 5 B b bs w) (hx : Ext w w') : Lib.IsBuilder 104 5 B b bs w' := by
  have key : ∀ p, Lib.BuilderAt 104 5 B b p bs w → Lib.BuilderAt 104 5 B b p bs w' := by
    rintro p h
    have hlt := h.lt
    obtain ⟨hB, v, hb, hown, hne⟩ := h
    refine ⟨hB, v, (hx.block b hlt).trans hb, hown.kept (row := none) ⟨hx.os, hx.tape, hx.output, hx.size, fun k hk _ => hx.block k hk⟩ ?_, hne⟩
    rcases hown.2 with ⟨hv, _⟩ | ⟨g, cap, cur, hv, _⟩
    · exact Or.inl (by rw [hv]; rfl)
    · exact Or.inr (by rw [hv]; simp [Value.ownBlock])
  rcases h with h | h
  · exact Or.inl (key _ h)
  · exact Or.inr (key _ h)
theorem tok_len {t : Tok} (h : goodT t) : (tokB t).length ≤ 32 := by
  obtain ⟨_, ⟨h1, h2, h3⟩ | ⟨h1, h2, h3, h4⟩ | ⟨h1, h4, d, h2, h3⟩⟩ := h
  · rw [tokB, if_neg (by omega)]
    simp only [wordB, Bool.and_eq_true, decide_eq_true_eq] at h2
    have := h2.1.1.1.2
    show t.text.data.toList.length ≤ 32
    have e : t.text.data.toList.length = t.text.size := by simp
    omega
  · rw [tokB, if_pos h1, decB]
    have key : ∀ f n, (digs f n).length ≤ f := by
      intro f
      induction f with
      | zero => intro n; simp [digs]
      | succ f ih =>
        intro n
        rw [digs]
        split
        · simp
        · have := ih (n / 10)
          simp; omega
    have k1 := key 20 t.num.natAbs
    split
    · simp; omega
    · omega
  · rw [tokB, if_neg (by omega), h2]
    simp
theorem pcs_le : (l : List Tok) → (g : Bool) → (∀ t ∈ l, goodT t) → (pcsB (joinPc g l)).length ≤ 33 * l.length
  | [], g, _ => by simp [joinPc, pcsB]
  | t :: r, g, h => by
    have h1 := tok_len (h t (by simp))
    have h2 := fun g => pcs_le r g (fun x hx => h x (by simp [hx]))
    rw [joinPc]
    have h3 := h2 (tokB t == [40])
    rw [pcsB_append]
    simp only [List.length_append, List.length_cons]
    split <;> simp only [pcsB, List.flatMap_cons, List.flatMap_nil, Pc.bytes, List.length_append, List.length_nil, List.length_cons] at * <;> omega
theorem bytes_app (a b : List UInt8) : Lib.byteCells a ++ Lib.byteCells b = Lib.byteCells (a ++ b) := by simp [Lib.byteCells]
theorem gap_eq {l : List Tok} (hg : ∀ t ∈ l, goodT t) {k : Nat} (hk : k + 1 < l.length) : (!gluedA true (l.take (k + 1)) && !closes (tokB l[k + 1])) = apartB l[k] l[k + 1] := by
  rw [apart_pcs (hg _ (List.getElem_mem _)) (hg _ (List.getElem_mem _)), show l.take (k + 1) = l.take k ++ [l[k]] by simp, gluedA_snoc]

theorem blkT {w : World} {b : Nat} {v0 v1 v2 v3 : Value} {t : TypeId} (h : w.heap[b]? = some (.cells #[v0, v1, v2, v3] t (0, 0))) :
    w.cell? ⟨b, 0, none⟩ = some v0 ∧ w.cell? ⟨b, 1, none⟩ = some v1 ∧ w.cell? ⟨b, 2, none⟩ = some v2 ∧ w.cell? ⟨b, 3, none⟩ = some v3 ∧ (∀ j, w.frozen? ⟨b, j, none⟩ = false) :=
  ⟨blk_cell h 0, blk_cell h 1, blk_cell h 2, blk_cell h 3, fun j => blk_free h j⟩
def tabJ (a : Value) (k : Nat) (b off : Nat) (p t : Value) (g : Bool) : List Value :=
  [.int .i64 (k + 1 : Nat), .bool true, .bool true, a, .int .i64 (k + 1 : Nat), .int .i64 k, .pointer (some ⟨b, off, none⟩), p, t, .bool g, .bool g]
def RJ (tab : List Value) (i : Nat) (u : Value) (_ : World) : Prop := u = tab.getD i undef
def GJ (W4 : World) (_ : List Nat) (_ : Nat → Value) (W : World) : Prop := Ext W4 W
def EJ (_ : Nat) (W W' : World) : Prop := Ext W W'
def guardsJ (ops : Array Oper) : Bool := ops.all fun o => match o.guard with | none => true | some (j, b) => b && j == 2
theorem gdJ {ops : Array Oper} (h : guardsJ ops = true) {a : Value} {k b off : Nat} {p t : Value} {g : Bool} : ∀ i o j c, i < 11 → ops[i]? = some o → o.guard = some (j, c) → ∀ v W, RJ (tabJ a k b off p t g) j v W → v = .bool c := by
  intro i o j c _ ho hg v W hR
  have h1 := Array.all_eq_true_iff_forall_mem.1 h o (Array.mem_of_getElem? ho)
  rw [hg] at h1
  simp only [Bool.and_eq_true, beq_iff_eq] at h1
  obtain ⟨rfl, rfl⟩ := h1
  exact hR

set_option maxRecDepth 100000 in
set_option maxHeartbeats 4000000 in
theorem sjoin_calls (l : List Tok) (a : Option Addr) (n c : Nat) (w : World) (ht : IsToks w l a n c) (hg : ∀ t ∈ l, goodT t) (htab : HasTab w) :
    Calls Tryz.prog 34 #[.slice a n c] w (JoinQ (joinR l).1 (joinR l).2 w) := by
  have HT := Lib.hid ht
  have HN := Lib.hid ht.1
  have HGD := Lib.hid hg
  have HTB := Lib.hid htab
  have HR := Lib.hid (show joinR l = if 4000 < n then ([], 4) else if 16384 < (pcsB (joinPc true l)).length then ([], 4) else (pcsB (joinPc true l), 0) by rw [ht.1]; rfl)
  clear ht hg htab
  by_cases hn : 4000 < n
  · have t0 : decide (4000 < (n : Int)) = true := by simp; omega
    rw [HR.out, if_pos hn]
    clear HR
    go_enter Tryz.func34, Tryz.ntmps34
    go_wp2_with fail
    go_ret2
    exact ⟨rfl, Ext.refl w⟩
  have t0 : decide (4000 < (n : Int)) = false := by simp; omega
  rw [if_neg hn] at HR
  go_enter Tryz.func34, Tryz.ntmps34
  go_wp2_with fail
  go_loopg [14] n (fun g i wr => ∃ k : Nat, k ≤ n ∧ g = n - k ∧ i = .int .i64 k ∧ Lib.IsBuilder 104 5 w.heap.size w.heap.size (Lib.byteCells (pcsB (joinPc true (l.take k)))) wr ∧ Ext w wr)
  case atStart => exact ⟨0, by omega, rfl, rfl, Lib.fresh_isBuilder 104 5 w, (Ext.refl w).alloc _⟩
  case round =>
    obtain ⟨k, hk, hgk, rfl, hbl, hx⟩ := hrel
    have HGN := Lib.hid hgk
    have HX := Lib.hid hx
    have HB := Lib.hid hbl
    clear hgk hx hbl
    by_cases hlt : k < n
    · have hlt' : k < l.length := by have := HN.out; omega
      have t1 : decide ((k : Int) < (n : Int)) = true := by simp; omega
      obtain ⟨b, off, rfl, h0, h1, h2, h3⟩ := toks_at HT.out hlt'
      replace h0 := HX.out.cell h0
      replace h1 := HX.out.cell h1
      replace h2 := HX.out.cell h2
      replace h3 := HX.out.cell h3
      have HE := Lib.hid (show l.take (k + 1) = l.take k ++ [l[k]] by simp)
      have HXA := Lib.hid (fun o => HX.out.alloc o)
      have HW := Lib.hid (swritten_calls l[k] (HGD.out _ (List.getElem_mem hlt')))
      unfold tokV at HW
      have HPC := Lib.hid (show pcsB (joinPc true (l.take (k + 1))) = pcsB (joinPc true (l.take k)) ++ ((if !gluedA true (l.take k) && !closes (tokB l[k]) then [32] else []) ++ tokB l[k]) by rw [HE.out, pcs_snoc])
      have HL := Lib.hid (show (pcsB (joinPc true (l.take k))).length ≤ 200000 ∧ (tokB l[k]).length ≤ 32 by
        have e1 := pcs_le (l.take k) true (fun t ht => HGD.out t (List.mem_of_mem_take ht))
        have e2 := tok_len (HGD.out _ (List.getElem_mem hlt'))
        simp only [List.length_take] at e1
        exact ⟨by omega, e2⟩)
      go_wp2_with fail
      refine (HW.out _ (HTB.out.ext (HXA.out _))).mono ?_
      rintro r w1 ⟨rfl, hx1⟩
      have HX1 := Lib.hid ((HXA.out _).trans hx1)
      have HB1 := Lib.hid (bld_ext (bld_ext HB.out ((Ext.refl wr).alloc _)) hx1)
      have HC := Lib.hid (hx1.blk (alloc_new wr _))
      have hwb := blk_lt HC.out
      clear hx1 h0 h1 h2 h3 HW HXA
      generalize hT : tokB l[k] = T at *
      generalize hO : pcsB (joinPc true (l.take k)) = O at *
      unfold bstr
      go_upto_region 10 with fail
      go_cut [37] (fun s37 wx => s37 = .bool (!gluedA true (l.take k) && !closes T) ∧ Ext w1 wx)
      case first =>
        cases k with
        | zero =>
          have t2 : decide ((0 : Int) < ((0 : Nat) : Int)) = false := rfl
          go_quiet (fail)
          go_wp2_with fail
          go_meet
          case rel => exact ⟨rfl, Ext.drewN (Ext.refl _) _⟩
        | succ k =>
          have hk' : k < l.length := by omega
          have HGE := Lib.hid (gap_eq HGD.out hlt')
          rw [hT] at HGE
          obtain ⟨b', off', e, q0, q1, q2, q3⟩ := toks_at HT.out hk'
          cases e
          obtain ⟨c0, c1, c2, c3, cf⟩ := blkT HC.out
          replace q0 := HX1.out.cell q0
          replace q1 := HX1.out.cell q1
          replace q2 := HX1.out.cell q2
          replace q3 := HX1.out.cell q3
          have HAP := Lib.hid (sapart_calls l[k] l[k + 1])
          generalize apartB l[k] l[k + 1] = g at *
          refine wp_region_growLG (m := 11) (n := 40) [10] (GJ w1) EJ (RJ (tabJ (.slice (some ⟨b, off, none⟩) n c) k b (off + k * 4) (tokV l[k]) (tokV l[k + 1]) g)) (by kernel_rfl) (by kernel_rfl) (Nat.le_of_ble_eq_true rfl) (gdJ (by kernel_rfl)) ((Ext.refl _).drew) (fun _ _ _ _ _ _ _ _ _ hR _ => hR) ?_ ?_
          · intro i o hi ho L vs W hiL hnc hG hd ρ hρ
            have hi' : i = 0 ∨ i = 1 ∨ i = 2 ∨ i = 3 ∨ i = 4 ∨ i = 5 ∨ i = 6 ∨ i = 7 ∨ i = 8 ∨ i = 9 ∨ i = 10 := by omega
            clear hi hiL hnc
            have o0 : ρ (.tmp 0) = .slice (some ⟨b, off, none⟩) n c := hρ.out 0 rfl
            have o5 : ρ (.tmp 5) = .int .i64 (k + 1 : Nat) := hρ.out 5 rfl
            have o6 : ρ (.tmp 6) = .pointer (some ⟨wr.heap.size, 0, none⟩) := hρ.out 6 rfl
            have hcs := hρ.const
            have hfn := hρ.func
            have hW : Ext w1 W := hG
            have HG := Lib.hid hW
            replace q0 := hW.cell q0
            replace q1 := hW.cell q1
            replace q2 := hW.cell q2
            replace q3 := hW.cell q3
            replace c0 := hW.cell c0
            replace c1 := hW.cell c1
            replace c2 := hW.cell c2
            replace c3 := hW.cell c3
            have hzW := hW.size
            have hkn : k < n := by omega
            clear hG hW
            rcases hi' with rfl | rfl | rfl | rfl | rfl | rfl | rfl | rfl | rfl | rfl | rfl
            · cases ho
              clear hρ hd
              unfold GivesOp
              go_simp
              exact ⟨Ext.refl W, HG.out, rfl⟩
            · cases ho
              have i0 := hρ.ins 0 27 (by omega) rfl (Nat.le_of_ble_eq_true rfl)
              have h0 : vs 0 = _ := hd ⟨0, .data⟩ (by simp) rfl
              rw [h0] at i0
              dsimp only [tabJ, List.getD_cons_zero, List.getD_cons_succ] at i0
              clear hρ hd
              unfold GivesOp
              go_simp
              exact ⟨Ext.refl W, HG.out, rfl⟩
            · cases ho
              have i1 := hρ.ins 1 28 (by omega) rfl (Nat.le_of_ble_eq_true rfl)
              have h1 : vs 1 = _ := hd ⟨1, .data⟩ (by simp) rfl
              rw [h1] at i1
              dsimp only [tabJ, List.getD_cons_zero, List.getD_cons_succ] at i1
              clear hρ hd
              unfold GivesOp
              go_simp
              exact ⟨Ext.refl W, HG.out, rfl⟩
            · cases ho
              clear hρ hd
              unfold GivesOp
              go_simp
              exact ⟨Ext.refl W, HG.out, rfl⟩
            · cases ho
              clear hρ hd
              unfold GivesOp
              go_simp
              exact ⟨Ext.refl W, HG.out, rfl⟩
            · cases ho
              have i4 := hρ.ins 4 31 (by omega) rfl (Nat.le_of_ble_eq_true rfl)
              have h4 : vs 4 = _ := hd ⟨4, .data⟩ (by simp) rfl
              rw [h4] at i4
              dsimp only [tabJ, List.getD_cons_zero, List.getD_cons_succ] at i4
              clear hρ hd
              unfold GivesOp
              go_simp
              exact ⟨Ext.refl W, HG.out, show Value.int .i64 (IntKind.i64.wrap (k : Int)) = .int .i64 k by rw [IntWalk.i64_in _ (by omega)]⟩
            · cases ho
              have i3 := hρ.ins 3 30 (by omega) rfl (Nat.le_of_ble_eq_true rfl)
              have h3 : vs 3 = _ := hd ⟨3, .data⟩ (by simp) rfl
              rw [h3] at i3
              dsimp only [tabJ, List.getD_cons_zero, List.getD_cons_succ] at i3
              have i5 := hρ.ins 5 32 (by omega) rfl (Nat.le_of_ble_eq_true rfl)
              have h5 : vs 5 = _ := hd ⟨5, .data⟩ (by simp) rfl
              rw [h5] at i5
              dsimp only [tabJ, List.getD_cons_zero, List.getD_cons_succ] at i5
              clear hρ hd
              unfold GivesOp
              go_simp
              exact ⟨Ext.refl W, HG.out, rfl⟩
            · cases ho
              have i6 := hρ.ins 6 33 (by omega) rfl (Nat.le_of_ble_eq_true rfl)
              have h6 : vs 6 = _ := hd ⟨6, .data⟩ (by simp) rfl
              rw [h6] at i6
              dsimp only [tabJ, List.getD_cons_zero, List.getD_cons_succ] at i6
              clear hρ hd
              unfold GivesOp
              go_simp
              exact ⟨Ext.refl W, HG.out, rfl⟩
            · cases ho
              clear hρ hd
              unfold GivesOp
              go_simp
              exact ⟨Ext.refl W, HG.out, rfl⟩
            · cases ho
              have i7 := hρ.ins 7 34 (by omega) rfl (Nat.le_of_ble_eq_true rfl)
              have h7 : vs 7 = _ := hd ⟨7, .data⟩ (by simp) rfl
              rw [h7] at i7
              dsimp only [tabJ, List.getD_cons_zero, List.getD_cons_succ] at i7
              have i8 := hρ.ins 8 35 (by omega) rfl (Nat.le_of_ble_eq_true rfl)
              have h8 : vs 8 = _ := hd ⟨8, .data⟩ (by simp) rfl
              rw [h8] at i8
              dsimp only [tabJ, List.getD_cons_zero, List.getD_cons_succ] at i8
              clear hρ hd
              unfold GivesOp
              go_simp
              refine (HAP.out W).mono ?_
              rintro r W' ⟨rfl, hx⟩
              exact ⟨_, rfl, hx, HG.out.trans hx, rfl⟩
            · cases ho
              have i2 := hρ.ins 2 29 (by omega) rfl (Nat.le_of_ble_eq_true rfl)
              have h2 : vs 2 = _ := hd ⟨2, .data⟩ (by simp) rfl
              rw [h2] at i2
              dsimp only [tabJ, List.getD_cons_zero, List.getD_cons_succ] at i2
              have i9 := hρ.ins 9 36 (by omega) rfl (Nat.le_of_ble_eq_true rfl)
              have h9 : vs 9 = _ := hd ⟨9, .data⟩ (by simp) rfl
              rw [h9] at i9
              dsimp only [tabJ, List.getD_cons_zero, List.getD_cons_succ] at i9
              clear hρ hd
              unfold GivesOp
              go_simp
              exact ⟨Ext.refl W, HG.out, rfl⟩
          · intro L vs W _ hG hR
            rw [if_pos (by decide +kernel)]
            have r10 : vs 10 = .bool g := hR 10 (by simp) (by omega)
            have hW : Ext w1 W := hG
            have HFIN := Lib.hid hW
            clear hG hR hW
            simp only [acts, dstAt, List.range, List.range.loop, List.foldl_cons, List.foldl_nil, r10]
            go_simp
            go_wp2_with fail
            go_meet
            case rel => exact ⟨by rw [HGE.out], HFIN.out⟩
      case rest =>
        obtain ⟨rfl, hxx⟩ := hcut
        have HX2 := Lib.hid (HX1.out.trans hxx)
        have HB2 := Lib.hid (bld_ext HB1.out hxx)
        clear hxx HB1 HX1 HC
        have HBO := Lib.hid (bytes_app O [32])
        have HBT := Lib.hid (bytes_app O T)
        have HBT3 := Lib.hid (bytes_app (O ++ [32]) T)
        obtain ⟨hl1, hl2⟩ := HL.out
        have hsz : (⟨T.toArray⟩ : ByteArray).size = T.length := by simp [ByteArray.size]
        cases hsp : (!gluedA true (l.take k) && !closes T) with
        | true =>
          have HPC2 := Lib.hid (show pcsB (joinPc true (l.take (k + 1))) = O ++ [32] ++ T by rw [HPC.out, hsp]; simp)
          clear HPC hsp
          go_wp2_with fail
          refine (writeByte_calls _ _ _ _ _ HB2.out (by rw [Lib.byteCells_length]; omega) HX2.out.size).mono ?_
          rintro r w2 ⟨rfl, hb2, hw2⟩
          have HX3 := Lib.hid (show Ext w w2 from Below.trans HX2.out hw2)
          have HB3 := Lib.hid (show Lib.IsBuilder 104 5 w.heap.size w.heap.size (Lib.byteCells (O ++ [32])) w2 from Or.inr (by rw [← HBO.out]; exact hb2))
          clear hb2 hw2
          go_wp2_with fail
          refine (writeString_calls _ _ _ _ _ HB3.out (by (rw [Lib.byteCells_length, hsz]); (try simp only [List.length_append, List.length_cons, List.length_nil]); omega) HX3.out.size).mono ?_
          rintro r w3 ⟨rfl, hb3, hw3⟩
          have HX4 := Lib.hid (show Ext w w3 from Below.trans HX3.out hw3)
          have HB4 := Lib.hid (show Lib.IsBuilder 104 5 w.heap.size w.heap.size (Lib.byteCells (O ++ [32] ++ T)) w3 from Or.inr (by rw [← HBT3.out]; exact hb3))
          clear hb3 hw3
          go_wp2_with fail
          go_roundg (n - (k + 1))
          case measure => have := HGN.out; omega
          case rel => exact ⟨k + 1, by omega, rfl, by go_num, by rw [HPC2.out]; exact HB4.out, HX4.out⟩
        | false =>
          have HPC2 := Lib.hid (show pcsB (joinPc true (l.take (k + 1))) = O ++ T by rw [HPC.out, hsp]; simp)
          clear HPC hsp
          go_wp2_with fail
          refine (writeString_calls _ _ _ _ _ HB2.out (by (rw [Lib.byteCells_length, hsz]); (try simp only [List.length_append, List.length_cons, List.length_nil]); omega) HX2.out.size).mono ?_
          rintro r w3 ⟨rfl, hb3, hw3⟩
          have HX4 := Lib.hid (show Ext w w3 from Below.trans HX2.out hw3)
          have HB4 := Lib.hid (show Lib.IsBuilder 104 5 w.heap.size w.heap.size (Lib.byteCells (O ++ T)) w3 from Or.inr (by rw [← HBT.out]; exact hb3))
          clear hb3 hw3
          go_wp2_with fail
          go_roundg (n - (k + 1))
          case measure => have := HGN.out; omega
          case rel => exact ⟨k + 1, by omega, rfl, by go_num, by rw [HPC2.out]; exact HB4.out, HX4.out⟩
    · have HE2 := Lib.hid (show l.take k = l from List.take_of_length_le (by have := HN.out; omega))
      have t1 : decide ((k : Int) < (n : Int)) = false := by simp; omega
      rw [HE2.out] at HB
      generalize hO : pcsB (joinPc true l) = O at *
      go_wp2_with fail
      refine (Tryz.Builder_Len _ _ _ _ HB.out).mono ?_
      rintro r w1 ⟨rfl, rfl⟩
      rw [Lib.byteCells_length]
      by_cases hl : 16384 < O.length
      · have tO : decide (16384 < (O.length : Int)) = true := by simp; omega
        rw [if_pos hl] at HR
        clear HB
        go_wp2_with fail
        go_ret2
        rw [HR.out]
        exact ⟨rfl, HX.out⟩
      · have tO : decide (16384 < (O.length : Int)) = false := by simp; omega
        rw [if_neg hl] at HR
        go_wp2_with fail
        refine (Tryz.Builder_String_any _ _ _ _ HB.out HX.out.size).mono ?_
        rintro r w1 ⟨rfl, hb1⟩
        have HX1 := Lib.hid (show Ext w w1 from Below.trans HX.out hb1)
        go_wp2_with fail
        go_ret2
        rw [HR.out]
        exact ⟨rfl, HX1.out⟩
end Go.Proofs.YtaepiiediblleaaGreatDoor

namespace Go.Proofs.YtaepiiediblleaaGreatDoor
open Go.RowKit

/-- What an operation of a region that appends tokens leaves: a plain value; a block with tokens; the row, grown to l. -/
inductive What where
  | val (u : Value)
  | blk (ts : List Tok)
  | own (l : List Tok)
def What.plain : What → Bool
  | .val _ => true
  | _ => false
def TokR (base : Nat) (w0 : World) (v : Value) (f : Nat → What) (i : Nat) (u : Value) (W : World) : Prop := match f i with
  | .val x => u = x
  | .blk ts => ∃ x0, u = .slice (some ⟨x0, 0, none⟩) ts.length ts.length ∧ W.heap[x0]? = some (.cells (ts.flatMap tokCells).toArray 73 (0, 0))
  | .own l => OwnT W base l u ∧ Grew w0 v W u
def TokE (gs : List Nat) (k : Nat) (W W' : World) : Prop := k ∈ gs ∨ Ext W W'
def TokG (gs : List Nat) (w0 : World) (v : Value) (L : List Nat) (W : World) : Prop := Chg (rowOf v) w0 W ∧ ((∀ g ∈ gs, g ∉ L) → Ext w0 W)
/-- The rows and blocks outlast no operation that grows the row. -/
def tokApart (ops : Array Oper) (m : Nat) (Kp gs : List Nat) (f : Nat → What) : Bool := (List.range m).all fun i => gs.all fun k => i == k || (f i).plain || !outlasts ops m Kp i k
theorem tokR_keeps {ops : Array Oper} {m : Nat} {Kp gs : List Nat} {f : Nat → What} (hap : tokApart ops m Kp gs f = true) {base : Nat} {w0 : World} {v : Value} :
    ∀ i k u W W', i < m → k < m → i ≠ k → outlasts ops m Kp i k = true → TokR base w0 v f i u W → TokE gs k W W' → TokR base w0 v f i u W' := by
  intro i k u W W' hi _ hik ho hR hE
  unfold TokR at *
  split at hR
  · exact hR
  all_goals
    rcases hE with hE | hE
    · have := List.all_eq_true.1 (List.all_eq_true.1 hap i (by simpa using hi)) k hE
      rename_i hf
      simp [hik, hf, What.plain, ho] at this
  · obtain ⟨x0, h1, h2⟩ := hR
    exact ⟨x0, h1, hE.blk h2⟩
  · exact ⟨hR.1.ext hE, hR.2.trans (hE.grew _)⟩
/-- Before the first append none has been done. -/
theorem tok_before {ops : Array Oper} {m : Nat} {gs L : List Nat} {i : Nat} (hg : (gs.all fun g => g == i || comesAfter ops m g i) = true) (hi : i ∉ L) (hL : ∀ j ∈ L, comesAfter ops m j i = false) : ∀ g ∈ gs, g ∉ L := by
  intro g hgs hgL
  have := List.all_eq_true.1 hg g hgs
  rw [hL g hgL] at this
  simp only [Bool.or_false, beq_iff_eq] at this
  exact hi (this ▸ hgL)
theorem TokG.ext {gs : List Nat} {w0 : World} {v : Value} {L : List Nat} {W W' : World} (h : TokG gs w0 v L W) (hx : Ext W W') (i : Nat) : TokG gs w0 v (L ++ [i]) W' :=
  ⟨h.1.then (hx.chg _), fun hn => (h.2 fun g hg hl => hn g hg (List.mem_append_left _ hl)).trans hx⟩
theorem TokG.grow {gs : List Nat} {w0 : World} {v : Value} {L : List Nat} {W W' : World} {u u' : Value} (h : Grew w0 v W u) (hg : Grew W u W' u') {i : Nat} (hi : i ∈ gs) : TokG gs w0 v (L ++ [i]) W' :=
  ⟨(h.trans hg).1, fun hn => absurd (by simp) (hn i hi)⟩

/-- append of tokens, as a step of such a region. -/
theorem gives_append_tok {ρ : Operand → Value} {W : World} {T : Value → World → Prop} {dst : Option Tmp} {ty : TypeId} {pos : String} {after : Array Edge} {guard : Option (Nat × Bool)}
    (s x : Operand) (base : Nat) (u : Value) (l ts : List Tok) (hs : ρ s = u) (hown : OwnT W base l u) (x0 : Nat) (hx : ρ x = .slice (some ⟨x0, 0, none⟩) ts.length ts.length) (hx0 : W.heap[x0]? = some (.cells (ts.flatMap tokCells).toArray 73 (0, 0)))
    (hm : 0 < ts.length) (hn : l.length + ts.length ≤ 100000000) (hbase : base ≤ W.heap.size)
    (h : ∀ u' w', OwnT w' base (l ++ ts) u' → Grew W u w' u' → T u' w') :
    GivesOp Tryz.prog { dst := dst, op := .call { callee := .builtin .append, args := #[s, x], argTypes := #[22, 22] }, type := ty, pos := pos, after := after, guard := guard } ρ W T := by
  refine gives_append elemTok _ _ base u l.length _ hs x0 ts.length ts.length (ts.flatMap tokCells) hx (length_flatMap_of tokCells 4 (fun _ => rfl) ts) ?_ hm hn (by omega) hown ?_ hbase ?_
  · intro q hq
    obtain ⟨t, _, ht⟩ := List.mem_flatMap.1 hq
    simp only [tokCells, List.mem_cons, List.not_mem_nil, or_false] at ht
    rcases ht with rfl | rfl | rfl | rfl <;> rfl
  · intro j hj
    rw [blk_cell hx0]
    simp
  · intro g cap w' ho hg hl _
    refine h _ _ ?_ ⟨grown_chg hg, fun k hk => ?_⟩
    · unfold OwnT
      rw [List.length_append, List.flatMap_append]
      exact ho
    · simp only [Value.ownBlock] at hk
      injection hk with hk
      subst hk
      rcases hl with hl | hl
      · exact Or.inl hl
      · exact Or.inr (by omega)

theorem tokMore_snoc (op : Int) (a : Ex) : (r : List Ex) → tokMore op (r ++ [a]) = tokMore op r ++ ([nameT (if op = 7 then wAnd else wOr)] ++ argT op a)
  | [] => by simp [tokMore_cons, tokMore]
  | b :: r => by
    have := tokMore_snoc op a r
    simp only [List.cons_append, tokMore_cons, this]
    simp
theorem tokArgs_snoc (op : Int) (a : Ex) (r : List Ex) : tokArgs op (r ++ [a]) = tokArgs op r ++ ((if r.length = 0 then [] else [nameT (if op = 7 then wAnd else wOr)]) ++ argT op a) := by
  cases r with
  | nil => simp [tokArgs_cons, tokArgs, tokMore]
  | cons b r => simp only [List.cons_append, tokArgs_cons, tokMore_snoc]; simp
theorem tokMore_take (op : Int) : (r : List Ex) → (k : Nat) → (tokMore op (r.take k)).length ≤ (tokMore op r).length
  | [], k => by simp
  | b :: r, 0 => by simp [tokMore]
  | b :: r, k + 1 => by have := tokMore_take op r k; simp only [List.take_succ_cons, tokMore_cons, List.length_cons, List.length_append]; omega
theorem tokArgs_take (op : Int) (r : List Ex) (k : Nat) : (tokArgs op (r.take k)).length ≤ (tokArgs op r).length := by
  cases r with
  | nil => simp
  | cons b r =>
    cases k with
    | zero => simp [tokArgs]
    | succ k => have := tokMore_take op r k; simp only [List.take_succ_cons, tokArgs_cons, List.length_append]; omega
theorem listedT_ge : (l : List ByteArray) → l.length ≤ (listedT l).length
  | [] => by simp [listedT]
  | [a] => by simp [listedT]
  | a :: b :: r => by have := listedT_ge (b :: r); simp only [listedT, List.length_cons] at this ⊢; omega
end Go.Proofs.YtaepiiediblleaaGreatDoor

namespace Go.Proofs.YtaepiiediblleaaGreatDoor
open Go.RowKit

/-- One token more. -/
theorem tokQ1 {base : Nat} {l L : List Tok} {v : Value} {w w0 w1 w2 : World} {v2 : Value} {t : Tok} (hL : L = [t]) (h0 : Ext w w0) (h1 : Ext w0 w1) (h2 : OwnT w2 base (l ++ [t]) v2) (h3 : Grew w1 v w2 v2) : TokQ base (l ++ L) v w (.returned v2) w2 := by subst hL; exact ⟨_, rfl, h2, ((h0.trans h1).grew v).trans h3⟩

set_option maxRecDepth 100000 in
set_option maxHeartbeats 1000000 in
theorem tokens_true (e : Ex) (l : List Tok) (v : Value) (base : Nat) (w : World) (ev : Value) (he : IsEx (mask w (rowOf v)) e ev) (ho : OwnT w base l v) (hb : base ≤ w.heap.size) (hl : l.length + (tokE e).length ≤ 10000) (hop : e.op = 1) :
    Calls Tryz.prog 26 #[v, ev] w (TokQ base (l ++ tokE e) v w) := by
  obtain ⟨aw, nw, cw, aa, na, ca, rfl, hw, hna, hca, ha, hx⟩ := he.parts
  have HE := Lib.hid (show tokE e = [nameT wTrue] by cases e; simp only [Ex.op] at hop; subst hop; simp [tokE])
  have hl1 : l.length ≤ 10000 := by omega
  have HO := Lib.hid (ho.ext ((Ext.refl w).alloc (.cells #[.int .i64 e.op, .string e.name, .slice aw nw cw, .int .i64 e.lo, .int .i64 e.hi, .slice aa na ca] 28)))
  have HX := Lib.hid ((Ext.refl w).alloc (.cells #[.int .i64 e.op, .string e.name, .slice aw nw cw, .int .i64 e.lo, .int .i64 e.hi, .slice aa na ca] 28))
  have t1 : (e.op == 1) = true := by simp [hop]
  clear hw hna hca ha hx he ho hl hop
  unfold exV
  go_enter Tryz.func26, Tryz.ntmps26
  go_wp2_with fail
  generalize w.alloc (.cells #[.int .i64 e.op, .string e.name, .slice aw nw cw, .int .i64 e.lo, .int .i64 e.hi, .slice aa na ca] 28) = wb at *
  refine (nameToken_calls _ _).mono ?_
  rintro r w1 ⟨rfl, hx1⟩
  have HX1 := Lib.hid hx1
  have HO1 := Lib.hid (HO.out.ext hx1)
  have hz1 := hx1.size
  have hz0 := HX.out.size
  clear hx1
  simp only [tokV, nameT]
  go_wp2_with (at_builtin; refine wpList_append_tok rfl _ _ rfl base _ _ [nameT wTrue] rfl HO1.out _ 1 1 rfl ?c0 ?c1 rfl ?c2 ?c3 ?c4 ?_)
  case c0 => rfl
  case c1 => rfl
  case c2 => omega
  case c3 => omega
  case c4 => omega
  intro v2 w2 hown2 hgrow2
  have HO2 := Lib.hid hown2
  have HG2 := Lib.hid hgrow2
  clear hown2 hgrow2
  go_wp2_with fail
  go_ret
  exact tokQ1 HE.out HX.out HX1.out HO2.out HG2.out

set_option maxRecDepth 100000 in
set_option maxHeartbeats 1000000 in
theorem tokens_false (e : Ex) (l : List Tok) (v : Value) (base : Nat) (w : World) (ev : Value) (he : IsEx (mask w (rowOf v)) e ev) (ho : OwnT w base l v) (hb : base ≤ w.heap.size) (hl : l.length + (tokE e).length ≤ 10000) (hop : e.op = 2) :
    Calls Tryz.prog 26 #[v, ev] w (TokQ base (l ++ tokE e) v w) := by
  obtain ⟨aw, nw, cw, aa, na, ca, rfl, hw, hna, hca, ha, hx⟩ := he.parts
  have HE := Lib.hid (show tokE e = [nameT wFalse] by cases e; simp only [Ex.op] at hop; subst hop; simp [tokE])
  have hl1 : l.length ≤ 10000 := by omega
  have HO := Lib.hid (ho.ext ((Ext.refl w).alloc (.cells #[.int .i64 e.op, .string e.name, .slice aw nw cw, .int .i64 e.lo, .int .i64 e.hi, .slice aa na ca] 28)))
  have HX := Lib.hid ((Ext.refl w).alloc (.cells #[.int .i64 e.op, .string e.name, .slice aw nw cw, .int .i64 e.lo, .int .i64 e.hi, .slice aa na ca] 28))
  have t1 : (e.op == 1) = false := by simp [hop]
  have t2 : (e.op == 2) = true := by simp [hop]
  clear hw hna hca ha hx he ho hl hop
  unfold exV
  go_enter Tryz.func26, Tryz.ntmps26
  go_wp2_with fail
  generalize w.alloc (.cells #[.int .i64 e.op, .string e.name, .slice aw nw cw, .int .i64 e.lo, .int .i64 e.hi, .slice aa na ca] 28) = wb at *
  refine (nameToken_calls _ _).mono ?_
  rintro r w1 ⟨rfl, hx1⟩
  have HX1 := Lib.hid hx1
  have HO1 := Lib.hid (HO.out.ext hx1)
  have hz1 := hx1.size
  have hz0 := HX.out.size
  clear hx1
  simp only [tokV, nameT]
  go_wp2_with (at_builtin; refine wpList_append_tok rfl _ _ rfl base _ _ [nameT wFalse] rfl HO1.out _ 1 1 rfl ?c0 ?c1 rfl ?c2 ?c3 ?c4 ?_)
  case c0 => rfl
  case c1 => rfl
  case c2 => omega
  case c3 => omega
  case c4 => omega
  intro v2 w2 hown2 hgrow2
  have HO2 := Lib.hid hown2
  have HG2 := Lib.hid hgrow2
  clear hown2 hgrow2
  go_wp2_with fail
  go_ret
  exact tokQ1 HE.out HX.out HX1.out HO2.out HG2.out

set_option maxRecDepth 100000 in
set_option maxHeartbeats 1000000 in
theorem tokens_name (e : Ex) (l : List Tok) (v : Value) (base : Nat) (w : World) (ev : Value) (he : IsEx (mask w (rowOf v)) e ev) (ho : OwnT w base l v) (hb : base ≤ w.heap.size) (hl : l.length + (tokE e).length ≤ 10000) (hop : e.op = 3) :
    Calls Tryz.prog 26 #[v, ev] w (TokQ base (l ++ tokE e) v w) := by
  obtain ⟨aw, nw, cw, aa, na, ca, rfl, hw, hna, hca, ha, hx⟩ := he.parts
  have HE := Lib.hid (show tokE e = [nameT e.name] by cases e; simp only [Ex.op] at hop; subst hop; simp [tokE, Ex.name])
  have hl1 : l.length ≤ 10000 := by omega
  have HO := Lib.hid (ho.ext ((Ext.refl w).alloc (.cells #[.int .i64 e.op, .string e.name, .slice aw nw cw, .int .i64 e.lo, .int .i64 e.hi, .slice aa na ca] 28)))
  have HX := Lib.hid ((Ext.refl w).alloc (.cells #[.int .i64 e.op, .string e.name, .slice aw nw cw, .int .i64 e.lo, .int .i64 e.hi, .slice aa na ca] 28))
  have t1 : (e.op == 1) = false := by simp [hop]
  have t2 : (e.op == 2) = false := by simp [hop]
  have t3 : (e.op == 3) = true := by simp [hop]
  clear hw hna hca ha hx he ho hl hop
  unfold exV
  go_enter Tryz.func26, Tryz.ntmps26
  go_wp2_with fail
  generalize w.alloc (.cells #[.int .i64 e.op, .string e.name, .slice aw nw cw, .int .i64 e.lo, .int .i64 e.hi, .slice aa na ca] 28) = wb at *
  refine (nameToken_calls _ _).mono ?_
  rintro r w1 ⟨rfl, hx1⟩
  have HX1 := Lib.hid hx1
  have HO1 := Lib.hid (HO.out.ext hx1)
  have hz1 := hx1.size
  have hz0 := HX.out.size
  clear hx1
  simp only [tokV, nameT]
  go_wp2_with (at_builtin; refine wpList_append_tok rfl _ _ rfl base _ _ [nameT e.name] rfl HO1.out _ 1 1 rfl ?c0 ?c1 rfl ?c2 ?c3 ?c4 ?_)
  case c0 => rfl
  case c1 => rfl
  case c2 => omega
  case c3 => omega
  case c4 => omega
  intro v2 w2 hown2 hgrow2
  have HO2 := Lib.hid hown2
  have HG2 := Lib.hid hgrow2
  clear hown2 hgrow2
  go_wp2_with fail
  go_ret
  exact tokQ1 HE.out HX.out HX1.out HO2.out HG2.out
end Go.Proofs.YtaepiiediblleaaGreatDoor

namespace Go.Proofs.YtaepiiediblleaaGreatDoor
open Go.RowKit

def fIn (v : Value) (be : Nat) (l : List Tok) (name : ByteArray) (words : List ByteArray) (aw : Option Addr) (nw cw : Nat) : Nat → What
  | 0 => .val v
  | 1 => .val (.pointer (some ⟨be, 1, none⟩))
  | 2 => .val (.string name)
  | 3 => .val (tokV (nameT name))
  | 4 => .val (tokV (nameT wIn))
  | 5 => .val (tokV (markT 40))
  | 6 => .blk [nameT name, nameT wIn, markT 40]
  | 7 => .own (l ++ [nameT name, nameT wIn, markT 40])
  | 8 => .val (.pointer (some ⟨be, 2, none⟩))
  | 9 => .val (.slice aw nw cw)
  | 10 => .own (l ++ [nameT name, nameT wIn, markT 40] ++ listedT words)
  | 11 => .val (tokV (markT 41))
  | 12 => .blk [markT 41]
  | 13 => .own (l ++ [nameT name, nameT wIn, markT 40] ++ listedT words ++ [markT 41])
  | _ => .val undef

set_option maxRecDepth 100000 in
set_option maxHeartbeats 2000000 in
theorem tokens_in (e : Ex) (l : List Tok) (v : Value) (base : Nat) (w : World) (ev : Value) (he : IsEx (mask w (rowOf v)) e ev) (ho : OwnT w base l v) (hb : base ≤ w.heap.size) (hl : l.length + (tokE e).length ≤ 10000) (hop : e.op = 4) :
    Calls Tryz.prog 26 #[v, ev] w (TokQ base (l ++ tokE e) v w) := by
  obtain ⟨aw, nw, cw, aa, na, ca, rfl, hw, hna, hca, ha, hx⟩ := he.parts
  have HE := Lib.hid (show tokE e = [nameT e.name, nameT wIn, markT 40] ++ listedT e.words ++ [markT 41] by cases e; simp only [Ex.op] at hop; subst hop; simp [tokE, Ex.name, Ex.words])
  have hl1 : l.length + 3 + (listedT e.words).length + 1 ≤ 10000 := by rw [HE.out] at hl; simp at hl; omega
  have hl2 := listedT_ge e.words
  have hl3 : nw ≤ 10000 := by have := hw.1; omega
  have HX := Lib.hid ((Ext.refl w).alloc (.cells #[.int .i64 e.op, .string e.name, .slice aw nw cw, .int .i64 e.lo, .int .i64 e.hi, .slice aa na ca] 28))
  have HW := Lib.hid (hw.mono (HX.out.grew v).sub)
  have HO := Lib.hid (ho.ext HX.out)
  have HBX := Lib.hid (alloc_new w (.cells #[.int .i64 e.op, .string e.name, .slice aw nw cw, .int .i64 e.lo, .int .i64 e.hi, .slice aa na ca] 28))
  have HNR := Lib.hid (show w.heap.size ∉ rowOf v from fun h => by have := (ho.lt h).2; omega)
  have t1 : (e.op == 1) = false := by simp [hop]
  have t2 : (e.op == 2) = false := by simp [hop]
  have t3 : (e.op == 3) = false := by simp [hop]
  have t4 : (e.op == 4) = true := by simp [hop]
  clear hw hna hca ha hx he ho hl hop
  unfold exV
  go_enter Tryz.func26, Tryz.ntmps26
  go_wp2_with fail
  generalize w.alloc (.cells #[.int .i64 e.op, .string e.name, .slice aw nw cw, .int .i64 e.lo, .int .i64 e.hi, .slice aa na ca] 28) = wb at *
  have hz0 := HX.out.size
  refine wp_region_growL (m := 14) [13] (TokG [7, 10, 13] wb v) (TokE [7, 10, 13]) (TokR base wb v (fIn v w.heap.size l e.name e.words aw nw cw)) (by kernel_rfl) (by kernel_rfl) ⟨(Chg.refl _ _).drew, fun _ => (Ext.refl wb).drew⟩ (tokR_keeps (by kernel_rfl)) ?_ ?_
  · intro i o hi ho L vs W hiL hnc hG hd ρ hρ
    have hi' : i = 0 ∨ i = 1 ∨ i = 2 ∨ i = 3 ∨ i = 4 ∨ i = 5 ∨ i = 6 ∨ i = 7 ∨ i = 8 ∨ i = 9 ∨ i = 10 ∨ i = 11 ∨ i = 12 ∨ i = 13 := by omega
    clear hi
    have o0 : ρ (.tmp 0) = v := hρ.out 0 rfl
    have o3 : ρ (.tmp 3) = .pointer (some ⟨w.heap.size, 0, none⟩) := hρ.out 3 rfl
    have i1 := hρ.ins 1 33 (by omega) rfl (Nat.le_of_ble_eq_true rfl)
    have i2 := hρ.ins 2 34 (by omega) rfl (Nat.le_of_ble_eq_true rfl)
    have i3 := hρ.ins 3 35 (by omega) rfl (Nat.le_of_ble_eq_true rfl)
    have i4 := hρ.ins 4 36 (by omega) rfl (Nat.le_of_ble_eq_true rfl)
    have i5 := hρ.ins 5 37 (by omega) rfl (Nat.le_of_ble_eq_true rfl)
    have i0 := hρ.ins 0 32 (by omega) rfl (Nat.le_of_ble_eq_true rfl)
    have i6 := hρ.ins 6 38 (by omega) rfl (Nat.le_of_ble_eq_true rfl)
    have i8 := hρ.ins 8 40 (by omega) rfl (Nat.le_of_ble_eq_true rfl)
    have i7 := hρ.ins 7 39 (by omega) rfl (Nat.le_of_ble_eq_true rfl)
    have i9 := hρ.ins 9 41 (by omega) rfl (Nat.le_of_ble_eq_true rfl)
    have i11 := hρ.ins 11 43 (by omega) rfl (Nat.le_of_ble_eq_true rfl)
    have i10 := hρ.ins 10 42 (by omega) rfl (Nat.le_of_ble_eq_true rfl)
    have i12 := hρ.ins 12 44 (by omega) rfl (Nat.le_of_ble_eq_true rfl)
    have hcs := hρ.const
    have hfn := hρ.func
    clear hρ
    have hbW := hG.1.blk HBX.out HNR.out
    obtain ⟨b0, b1, b2, b3, b4, b5, bf⟩ := blk6 hbW
    have hwz := hG.1.size
    have HG := Lib.hid hG
    clear hG hbW
    rcases hi' with rfl | rfl | rfl | rfl | rfl | rfl | rfl | rfl | rfl | rfl | rfl | rfl | rfl | rfl
    · cases ho
      unfold GivesOp
      go_simp
      exact ⟨Or.inr (Ext.refl _), HG.out.ext (Ext.refl _) _, rfl⟩
    · cases ho
      unfold GivesOp
      go_simp
      exact ⟨Or.inr (Ext.refl _), HG.out.ext (Ext.refl _) _, rfl⟩
    · cases ho
      have h1 : vs 1 = _ := hd ⟨1, .data⟩ (by simp) rfl
      rw [h1] at i1
      unfold GivesOp
      go_simp
      exact ⟨Or.inr (Ext.refl _), HG.out.ext (Ext.refl _) _, rfl⟩
    · cases ho
      have h1 : vs 2 = _ := hd ⟨2, .data⟩ (by simp) rfl
      rw [h1] at i2
      unfold GivesOp
      go_simp
      refine (nameToken_calls _ _).mono ?_
      rintro q W' ⟨rfl, hx⟩
      exact ⟨_, rfl, Or.inr hx, HG.out.ext hx _, rfl⟩
    · cases ho
      unfold GivesOp
      go_simp
      refine (nameToken_calls _ _).mono ?_
      rintro q W' ⟨rfl, hx⟩
      exact ⟨_, rfl, Or.inr hx, HG.out.ext hx _, rfl⟩
    · cases ho
      unfold GivesOp
      go_simp
      refine (markToken_calls _ _).mono ?_
      rintro q W' ⟨rfl, hx⟩
      exact ⟨_, rfl, Or.inr hx, HG.out.ext hx _, rfl⟩
    · cases ho
      have h3 : vs 3 = _ := hd ⟨3, .data⟩ (by simp) rfl
      have h4 : vs 4 = _ := hd ⟨4, .data⟩ (by simp) rfl
      have h5 : vs 5 = _ := hd ⟨5, .data⟩ (by simp) rfl
      rw [h3] at i3
      rw [h4] at i4
      rw [h5] at i5
      unfold tokV nameT at i3 i4
      unfold tokV markT at i5
      unfold GivesOp
      go_simp
      exact ⟨Or.inr ((Ext.refl _).alloc _), HG.out.ext ((Ext.refl _).alloc _) _, W.heap.size, rfl, alloc_new W _⟩
    · cases ho
      have h0 : vs 0 = _ := hd ⟨0, .data⟩ (by simp) rfl
      obtain ⟨x0, h6, hx0⟩ := hd ⟨6, .data⟩ (by simp) rfl
      rw [h0] at i0
      rw [h6] at i6
      have hxW := HG.out.2 (tok_before (by decide +kernel) hiL hnc)
      refine gives_append_tok _ _ base v l _ i0 (HO.out.ext hxW) x0 i6 hx0 (by simp) (by simp; omega) (by omega) ?_
      intro u' w' ho' hg'
      exact ⟨Or.inl (by simp), TokG.grow (hxW.grew v) hg' (by simp), ho', (hxW.grew v).trans hg'⟩
    · cases ho
      unfold GivesOp
      go_simp
      exact ⟨Or.inr (Ext.refl _), HG.out.ext (Ext.refl _) _, rfl⟩
    · cases ho
      have h1 : vs 8 = _ := hd ⟨8, .data⟩ (by simp) rfl
      rw [h1] at i8
      unfold GivesOp
      go_simp
      exact ⟨Or.inr (Ext.refl _), HG.out.ext (Ext.refl _) _, rfl⟩
    · cases ho
      obtain ⟨ho7, hg7⟩ := hd ⟨7, .data⟩ (by simp) rfl
      have h9 : vs 9 = _ := hd ⟨9, .data⟩ (by simp) rfl
      rw [h9] at i9
      have HO7 := Lib.hid ho7
      have HG7 := Lib.hid hg7
      clear ho7 hg7
      generalize vs 7 = u7 at *
      unfold GivesOp
      go_simp
      refine (listed_calls e.words _ u7 base aw nw cw W HO7.out (HW.out.mono HG7.out.sub) (by omega) (by simp; omega) (by omega)).mono ?_
      rintro q W' ⟨u', rfl, ho', hg'⟩
      exact ⟨_, rfl, Or.inl (by simp), TokG.grow HG7.out hg' (by simp), ho', HG7.out.trans hg'⟩
    · cases ho
      unfold GivesOp
      go_simp
      refine (markToken_calls _ _).mono ?_
      rintro q W' ⟨rfl, hx⟩
      exact ⟨_, rfl, Or.inr hx, HG.out.ext hx _, rfl⟩
    · cases ho
      have h3 : vs 11 = _ := hd ⟨11, .data⟩ (by simp) rfl
      rw [h3] at i11
      unfold tokV markT at i11
      unfold GivesOp
      go_simp
      exact ⟨Or.inr ((Ext.refl _).alloc _), HG.out.ext ((Ext.refl _).alloc _) _, W.heap.size, rfl, alloc_new W _⟩
    · cases ho
      obtain ⟨ho7, hg7⟩ := hd ⟨10, .data⟩ (by simp) rfl
      obtain ⟨x0, h6, hx0⟩ := hd ⟨12, .data⟩ (by simp) rfl
      rw [h6] at i12
      refine gives_append_tok _ _ base (vs 10) _ _ i10 ho7 x0 i12 hx0 (by simp) (by simp; omega) (by omega) ?_
      intro u' w' ho' hg'
      exact ⟨Or.inl (by simp), TokG.grow hg7 hg' (by simp), ho', hg7.trans hg'⟩
  · intro L vs W _ hG hR
    rw [if_neg (by decide +kernel)]
    obtain ⟨ho', hg'⟩ := hR 13 (by simp) (by omega)
    have HO2 := Lib.hid ho'
    have HG2 := Lib.hid hg'
    clear hG hR ho' hg'
    unfold wpOp
    simp only [acts, dstAt, List.range, List.range.loop, List.foldl_cons, List.foldl_nil]
    go_simp
    refine Or.inl ?_
    go_wp2_with fail
    go_ret
    exact ⟨_, rfl, by rw [HE.out]; simpa using HO2.out, (HX.out.grew v).trans HG2.out⟩
end Go.Proofs.YtaepiiediblleaaGreatDoor

namespace Go.Proofs.YtaepiiediblleaaGreatDoor
open Go.RowKit

def btwT (name : ByteArray) (lo hi : Int) : List Tok := [nameT name, nameT wFrom, numT lo, nameT wTo, numT hi]
def fBtw (v : Value) (be : Nat) (l : List Tok) (name : ByteArray) (lo hi : Int) : Nat → What
  | 0 => .val v
  | 1 => .val (.pointer (some ⟨be, 1, none⟩))
  | 2 => .val (.string name)
  | 3 => .val (tokV (nameT name))
  | 4 => .val (tokV (nameT wFrom))
  | 5 => .val (.pointer (some ⟨be, 3, none⟩))
  | 6 => .val (.int .i64 lo)
  | 7 => .val (tokV (numT lo))
  | 8 => .val (tokV (nameT wTo))
  | 9 => .val (.pointer (some ⟨be, 4, none⟩))
  | 10 => .val (.int .i64 hi)
  | 11 => .val (tokV (numT hi))
  | 12 => .blk (btwT name lo hi)
  | 13 => .own (l ++ btwT name lo hi)
  | _ => .val undef

set_option maxRecDepth 100000 in
set_option maxHeartbeats 2000000 in
theorem tokens_btw (e : Ex) (l : List Tok) (v : Value) (base : Nat) (w : World) (ev : Value) (he : IsEx (mask w (rowOf v)) e ev) (ho : OwnT w base l v) (hb : base ≤ w.heap.size) (hl : l.length + (tokE e).length ≤ 10000) (hop : e.op = 5) :
    Calls Tryz.prog 26 #[v, ev] w (TokQ base (l ++ tokE e) v w) := by
  obtain ⟨aw, nw, cw, aa, na, ca, rfl, hw, hna, hca, ha, hx⟩ := he.parts
  have HE := Lib.hid (show tokE e = btwT e.name e.lo e.hi by cases e; simp only [Ex.op] at hop; subst hop; simp [tokE, btwT, Ex.name, Ex.lo, Ex.hi])
  have hl1 : l.length + 5 ≤ 10000 := by rw [HE.out] at hl; simp [btwT] at hl; omega
  have HX := Lib.hid ((Ext.refl w).alloc (.cells #[.int .i64 e.op, .string e.name, .slice aw nw cw, .int .i64 e.lo, .int .i64 e.hi, .slice aa na ca] 28))
  have HO := Lib.hid (ho.ext HX.out)
  have HBX := Lib.hid (alloc_new w (.cells #[.int .i64 e.op, .string e.name, .slice aw nw cw, .int .i64 e.lo, .int .i64 e.hi, .slice aa na ca] 28))
  have HNR := Lib.hid (show w.heap.size ∉ rowOf v from fun h => by have := (ho.lt h).2; omega)
  have t1 : (e.op == 1) = false := by simp [hop]
  have t2 : (e.op == 2) = false := by simp [hop]
  have t3 : (e.op == 3) = false := by simp [hop]
  have t4 : (e.op == 4) = false := by simp [hop]
  have t5 : (e.op == 5) = true := by simp [hop]
  clear hw hna hca ha hx he ho hl hop
  unfold exV
  go_enter Tryz.func26, Tryz.ntmps26
  go_wp2_with fail
  generalize w.alloc (.cells #[.int .i64 e.op, .string e.name, .slice aw nw cw, .int .i64 e.lo, .int .i64 e.hi, .slice aa na ca] 28) = wb at *
  have hz0 := HX.out.size
  refine wp_region_growL (m := 14) [13] (TokG [13] wb v) (TokE [13]) (TokR base wb v (fBtw v w.heap.size l e.name e.lo e.hi)) (by kernel_rfl) (by kernel_rfl) ⟨(Chg.refl _ _).drew, fun _ => (Ext.refl wb).drew⟩ (tokR_keeps (by kernel_rfl)) ?_ ?_
  · intro i o hi ho L vs W hiL hnc hG hd ρ hρ
    have hi' : i = 0 ∨ i = 1 ∨ i = 2 ∨ i = 3 ∨ i = 4 ∨ i = 5 ∨ i = 6 ∨ i = 7 ∨ i = 8 ∨ i = 9 ∨ i = 10 ∨ i = 11 ∨ i = 12 ∨ i = 13 := by omega
    clear hi
    have o0 : ρ (.tmp 0) = v := hρ.out 0 rfl
    have o3 : ρ (.tmp 3) = .pointer (some ⟨w.heap.size, 0, none⟩) := hρ.out 3 rfl
    have i0 := hρ.ins 0 48 (by omega) rfl (Nat.le_of_ble_eq_true rfl)
    have i1 := hρ.ins 1 49 (by omega) rfl (Nat.le_of_ble_eq_true rfl)
    have i2 := hρ.ins 2 50 (by omega) rfl (Nat.le_of_ble_eq_true rfl)
    have i3 := hρ.ins 3 51 (by omega) rfl (Nat.le_of_ble_eq_true rfl)
    have i4 := hρ.ins 4 52 (by omega) rfl (Nat.le_of_ble_eq_true rfl)
    have i5 := hρ.ins 5 53 (by omega) rfl (Nat.le_of_ble_eq_true rfl)
    have i6 := hρ.ins 6 54 (by omega) rfl (Nat.le_of_ble_eq_true rfl)
    have i7 := hρ.ins 7 55 (by omega) rfl (Nat.le_of_ble_eq_true rfl)
    have i8 := hρ.ins 8 56 (by omega) rfl (Nat.le_of_ble_eq_true rfl)
    have i9 := hρ.ins 9 57 (by omega) rfl (Nat.le_of_ble_eq_true rfl)
    have i10 := hρ.ins 10 58 (by omega) rfl (Nat.le_of_ble_eq_true rfl)
    have i11 := hρ.ins 11 59 (by omega) rfl (Nat.le_of_ble_eq_true rfl)
    have i12 := hρ.ins 12 60 (by omega) rfl (Nat.le_of_ble_eq_true rfl)
    have hcs := hρ.const
    have hfn := hρ.func
    clear hρ
    have hbW := hG.1.blk HBX.out HNR.out
    obtain ⟨b0, b1, b2, b3, b4, b5, bf⟩ := blk6 hbW
    have hwz := hG.1.size
    have HG := Lib.hid hG
    clear hG hbW
    rcases hi' with rfl | rfl | rfl | rfl | rfl | rfl | rfl | rfl | rfl | rfl | rfl | rfl | rfl | rfl
    · cases ho
      unfold GivesOp
      go_simp
      exact ⟨Or.inr (Ext.refl _), HG.out.ext (Ext.refl _) _, rfl⟩
    · cases ho
      unfold GivesOp
      go_simp
      exact ⟨Or.inr (Ext.refl _), HG.out.ext (Ext.refl _) _, rfl⟩
    · cases ho
      have h1 : vs 1 = _ := hd ⟨1, .data⟩ (by simp) rfl
      rw [h1] at i1
      unfold GivesOp
      go_simp
      exact ⟨Or.inr (Ext.refl _), HG.out.ext (Ext.refl _) _, rfl⟩
    · cases ho
      have h2 : vs 2 = _ := hd ⟨2, .data⟩ (by simp) rfl
      rw [h2] at i2
      unfold GivesOp
      go_simp
      refine (nameToken_calls _ _).mono ?_
      rintro q W' ⟨rfl, hx⟩
      exact ⟨_, rfl, Or.inr hx, HG.out.ext hx _, rfl⟩
    · cases ho
      unfold GivesOp
      go_simp
      refine (nameToken_calls _ _).mono ?_
      rintro q W' ⟨rfl, hx⟩
      exact ⟨_, rfl, Or.inr hx, HG.out.ext hx _, rfl⟩
    · cases ho
      unfold GivesOp
      go_simp
      exact ⟨Or.inr (Ext.refl _), HG.out.ext (Ext.refl _) _, rfl⟩
    · cases ho
      have h5 : vs 5 = _ := hd ⟨5, .data⟩ (by simp) rfl
      rw [h5] at i5
      unfold GivesOp
      go_simp
      exact ⟨Or.inr (Ext.refl _), HG.out.ext (Ext.refl _) _, rfl⟩
    · cases ho
      have h6 : vs 6 = _ := hd ⟨6, .data⟩ (by simp) rfl
      rw [h6] at i6
      unfold GivesOp
      go_simp
      refine (numberToken_calls _ _).mono ?_
      rintro q W' ⟨rfl, hx⟩
      exact ⟨_, rfl, Or.inr hx, HG.out.ext hx _, rfl⟩
    · cases ho
      unfold GivesOp
      go_simp
      refine (nameToken_calls _ _).mono ?_
      rintro q W' ⟨rfl, hx⟩
      exact ⟨_, rfl, Or.inr hx, HG.out.ext hx _, rfl⟩
    · cases ho
      unfold GivesOp
      go_simp
      exact ⟨Or.inr (Ext.refl _), HG.out.ext (Ext.refl _) _, rfl⟩
    · cases ho
      have h9 : vs 9 = _ := hd ⟨9, .data⟩ (by simp) rfl
      rw [h9] at i9
      unfold GivesOp
      go_simp
      exact ⟨Or.inr (Ext.refl _), HG.out.ext (Ext.refl _) _, rfl⟩
    · cases ho
      have h10 : vs 10 = _ := hd ⟨10, .data⟩ (by simp) rfl
      rw [h10] at i10
      unfold GivesOp
      go_simp
      refine (numberToken_calls _ _).mono ?_
      rintro q W' ⟨rfl, hx⟩
      exact ⟨_, rfl, Or.inr hx, HG.out.ext hx _, rfl⟩
    · cases ho
      have h3 : vs 3 = _ := hd ⟨3, .data⟩ (by simp) rfl
      rw [h3] at i3
      have h4 : vs 4 = _ := hd ⟨4, .data⟩ (by simp) rfl
      rw [h4] at i4
      have h7 : vs 7 = _ := hd ⟨7, .data⟩ (by simp) rfl
      rw [h7] at i7
      have h8 : vs 8 = _ := hd ⟨8, .data⟩ (by simp) rfl
      rw [h8] at i8
      have h11 : vs 11 = _ := hd ⟨11, .data⟩ (by simp) rfl
      rw [h11] at i11
      unfold tokV nameT at i3 i4 i8
      unfold tokV numT at i7 i11
      unfold GivesOp
      go_simp
      exact ⟨Or.inr ((Ext.refl _).alloc _), HG.out.ext ((Ext.refl _).alloc _) _, W.heap.size, rfl, alloc_new W _⟩
    · cases ho
      have h0 : vs 0 = _ := hd ⟨0, .data⟩ (by simp) rfl
      obtain ⟨x0, h6, hx0⟩ := hd ⟨12, .data⟩ (by simp) rfl
      rw [h0] at i0
      rw [h6] at i12
      have hxW := HG.out.2 (tok_before (by decide +kernel) hiL hnc)
      refine gives_append_tok _ _ base v l _ i0 (HO.out.ext hxW) x0 i12 hx0 (by simp [btwT]) (by simp [btwT]; omega) (by omega) ?_
      intro u' w' ho' hg'
      exact ⟨Or.inl (by simp), TokG.grow (hxW.grew v) hg' (by simp), ho', (hxW.grew v).trans hg'⟩
  · intro L vs W _ hG hR
    rw [if_neg (by decide +kernel)]
    obtain ⟨ho', hg'⟩ := hR 13 (by simp) (by omega)
    have HO2 := Lib.hid ho'
    have HG2 := Lib.hid hg'
    clear hG hR ho' hg'
    unfold wpOp
    simp only [acts, dstAt, List.range, List.range.loop, List.foldl_cons, List.foldl_nil]
    go_simp
    refine Or.inl ?_
    go_wp2_with fail
    go_ret
    exact ⟨_, rfl, by rw [HE.out]; simpa using HO2.out, (HX.out.grew v).trans HG2.out⟩
end Go.Proofs.YtaepiiediblleaaGreatDoor
