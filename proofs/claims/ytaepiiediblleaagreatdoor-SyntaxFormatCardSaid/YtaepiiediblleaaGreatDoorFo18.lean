/-
  Texts of the claim, joined: SJoin2.
-/
import Derived.Test.YtaepiiediblleaaGreatDoorFo15
import Derived.Test.YtaepiiediblleaaGreatDoorFo17
namespace Go.Proofs.YtaepiiediblleaaGreatDoor
open Go.RowKit

/-- What the program's Join gives. -/
def joinR (l : List Tok) : List UInt8 × Int := if 4000 < l.length then ([], 4) else if 16384 < (pcsB (joinPc true l)).length then ([], 4) else (pcsB (joinPc true l), 0)
theorem bld_ext {B b : Nat} {bs : List Value} {w w' : World} (h : Lib.IsBuilder 104 5 B b bs w) (hx : Ext w w') : Lib.IsBuilder 104 5 B b bs w' := by
  have key : ∀ p, Lib.BuilderAt 104 5 B b p bs w → Lib.BuilderAt 104 5 B b p bs w' := by
    rintro p h
    have hlt := h.lt
    obtain ⟨hB, v, hb, hown, hne⟩ := h
    refine ⟨hB, v, (hx.block b hlt).trans hb, hown.kept (row := none) ⟨hx.os, hx.tape, hx.output, hx.size, fun k hk _ => hx.block k hk⟩ ?_, hne⟩
    rcases hown.2 with ⟨hv, _⟩ | ⟨g, cap, cur, hv, _⟩
    · exact Or.inl (by rw [hv]; rfl)
    · exact Or.inr (by rw [hv]; simp [Value.ownBlock])
  rcases h with h | h
  · exact Or.inl (key _ h)
  · exact Or.inr (key _ h)
theorem tok_len {t : Tok} (h : goodT t) : (tokB t).length ≤ 32 := by
  obtain ⟨_, ⟨h1, h2, h3⟩ | ⟨h1, h2, h3, h4⟩ | ⟨h1, h4, d, h2, h3⟩⟩ := h
  · rw [tokB, if_neg (by omega)]
    simp only [wordB, Bool.and_eq_true, decide_eq_true_eq] at h2
    have := h2.1.1.1.2
    show t.text.data.toList.length ≤ 32
    have e : t.text.data.toList.length = t.text.size := by simp
    omega
  · rw [tokB, if_pos h1, decB]
    have key : ∀ f n, (digs f n).length ≤ f := by
      intro f
      induction f with
      | zero => intro n; simp [digs]
      | succ f ih =>
        intro n
        rw [digs]
        split
        · simp
        · have := ih (n / 10)
          simp; omega
    have k1 := key 20 t.num.natAbs
    split
    · simp; omega
    · omega
  · rw [tokB, if_neg (by omega), h2]
    simp
theorem pcs_le : (l : List Tok) → (g : Bool) → (∀ t ∈ l, goodT t) → (pcsB (joinPc g l)).length ≤ 33 * l.length
  | [], g, _ => by simp [joinPc, pcsB]
  | t :: r, g, h => by
    have h1 := tok_len (h t (by simp))
    have h2 := fun g => pcs_le r g (fun x hx => h x (by simp [hx]))
    rw [joinPc]
    have h3 := h2 (tokB t == [40])
    rw [pcsB_append]
    simp only [List.length_append, List.length_cons]
    split <;> simp only [pcsB, List.flatMap_cons, List.flatMap_nil, Pc.bytes, List.length_append, List.length_nil, List.length_cons] at * <;> omega
theorem bytes_app (a b : List UInt8) : Lib.byteCells a ++ Lib.byteCells b = Lib.byteCells (a ++ b) := by simp [Lib.byteCells]
theorem gap_eq {l : List Tok} (hg : ∀ t ∈ l, goodT t) {k : Nat} (hk : k + 1 < l.length) : (!gluedA true (l.take (k + 1)) && !closes (tokB l[k + 1])) = apartB l[k] l[k + 1] := by
  rw [apart_pcs (hg _ (List.getElem_mem _)) (hg _ (List.getElem_mem _)), show l.take (k + 1) = l.take k ++ [l[k]] by simp, gluedA_snoc]

theorem blkT {w : World} {b : Nat} {v0 v1 v2 v3 : Value} {t : TypeId} (h : w.heap[b]? = some (.cells #[v0, v1, v2, v3] t (0, 0))) :
    w.cell? ⟨b, 0, none⟩ = some v0 ∧ w.cell? ⟨b, 1, none⟩ = some v1 ∧ w.cell? ⟨b, 2, none⟩ = some v2 ∧ w.cell? ⟨b, 3, none⟩ = some v3 ∧ (∀ j, w.frozen? ⟨b, j, none⟩ = false) :=
  ⟨blk_cell h 0, blk_cell h 1, blk_cell h 2, blk_cell h 3, fun j => blk_free h j⟩
def tabJ (a : Value) (k : Nat) (b off : Nat) (p t : Value) (g : Bool) : List Value :=
  [.int .i64 (k + 1 : Nat), .bool true, .bool true, a, .int .i64 (k + 1 : Nat), .int .i64 k, .pointer (some ⟨b, off, none⟩), p, t, .bool g, .bool g]
def RJ (tab : List Value) (i : Nat) (u : Value) (_ : World) : Prop := u = tab.getD i undef
def GJ (W4 : World) (_ : List Nat) (_ : Nat → Value) (W : World) : Prop := Ext W4 W
def EJ (_ : Nat) (W W' : World) : Prop := Ext W W'
def guardsJ (ops : Array Oper) : Bool := ops.all fun o => match o.guard with | none => true | some (j, b) => b && j == 2
theorem gdJ {ops : Array Oper} (h : guardsJ ops = true) {a : Value} {k b off : Nat} {p t : Value} {g : Bool} : ∀ i o j c, i < 11 → ops[i]? = some o → o.guard = some (j, c) → ∀ v W, RJ (tabJ a k b off p t g) j v W → v = .bool c := by
  intro i o j c _ ho hg v W hR
  have h1 := Array.all_eq_true_iff_forall_mem.1 h o (Array.mem_of_getElem? ho)
  rw [hg] at h1
  simp only [Bool.and_eq_true, beq_iff_eq] at h1
  obtain ⟨rfl, rfl⟩ := h1
  exact hR

set_option maxRecDepth 100000 in
set_option maxHeartbeats 4000000 in
theorem sjoin_calls (l : List Tok) (a : Option Addr) (n c : Nat) (w : World) (ht : IsToks w l a n c) (hg : ∀ t ∈ l, goodT t) (htab : HasTab w) :
    Calls Tryz.prog 34 #[.slice a n c] w (JoinQ (joinR l).1 (joinR l).2 w) := by
  have HT := Lib.hid ht
  have HN := Lib.hid ht.1
  have HGD := Lib.hid hg
  have HTB := Lib.hid htab
  have HR := Lib.hid (show joinR l = if 4000 < n then ([], 4) else if 16384 < (pcsB (joinPc true l)).length then ([], 4) else (pcsB (joinPc true l), 0) by rw [ht.1]; rfl)
  clear ht hg htab
  by_cases hn : 4000 < n
  · have t0 : decide (4000 < (n : Int)) = true := by simp; omega
    rw [HR.out, if_pos hn]
    clear HR
    go_enter Tryz.func34, Tryz.ntmps34
    go_wp2_with fail
    go_ret2
    exact ⟨rfl, Ext.refl w⟩
  have t0 : decide (4000 < (n : Int)) = false := by simp; omega
  rw [if_neg hn] at HR
  go_enter Tryz.func34, Tryz.ntmps34
  go_wp2_with fail
  go_loopg [14] n (fun g i wr => ∃ k : Nat, k ≤ n ∧ g = n - k ∧ i = .int .i64 k ∧ Lib.IsBuilder 104 5 w.heap.size w.heap.size (Lib.byteCells (pcsB (joinPc true (l.take k)))) wr ∧ Ext w wr)
  case atStart => exact ⟨0, by omega, rfl, rfl, Lib.fresh_isBuilder 104 5 w, (Ext.refl w).alloc _⟩
  case round =>
    obtain ⟨k, hk, hgk, rfl, hbl, hx⟩ := hrel
    have HGN := Lib.hid hgk
    have HX := Lib.hid hx
    have HB := Lib.hid hbl
    clear hgk hx hbl
    by_cases hlt : k < n
    · have hlt' : k < l.length := by have := HN.out; omega
      have t1 : decide ((k : Int) < (n : Int)) = true := by simp; omega
      obtain ⟨b, off, rfl, h0, h1, h2, h3⟩ := toks_at HT.out hlt'
      replace h0 := HX.out.cell h0
      replace h1 := HX.out.cell h1
      replace h2 := HX.out.cell h2
      replace h3 := HX.out.cell h3
      have HE := Lib.hid (show l.take (k + 1) = l.take k ++ [l[k]] by simp)
      have HXA := Lib.hid (fun o => HX.out.alloc o)
      have HW := Lib.hid (swritten_calls l[k] (HGD.out _ (List.getElem_mem hlt')))
      unfold tokV at HW
      have HPC := Lib.hid (show pcsB (joinPc true (l.take (k + 1))) = pcsB (joinPc true (l.take k)) ++ ((if !gluedA true (l.take k) && !closes (tokB l[k]) then [32] else []) ++ tokB l[k]) by rw [HE.out, pcs_snoc])
      have HL := Lib.hid (show (pcsB (joinPc true (l.take k))).length ≤ 200000 ∧ (tokB l[k]).length ≤ 32 by
        have e1 := pcs_le (l.take k) true (fun t ht => HGD.out t (List.mem_of_mem_take ht))
        have e2 := tok_len (HGD.out _ (List.getElem_mem hlt'))
        simp only [List.length_take] at e1
        exact ⟨by omega, e2⟩)
      go_wp2_with fail
      refine (HW.out _ (HTB.out.ext (HXA.out _))).mono ?_
      rintro r w1 ⟨rfl, hx1⟩
      have HX1 := Lib.hid ((HXA.out _).trans hx1)
      have HB1 := Lib.hid (bld_ext (bld_ext HB.out ((Ext.refl wr).alloc _)) hx1)
      have HC := Lib.hid (hx1.blk (alloc_new wr _))
      have hwb := blk_lt HC.out
      clear hx1 h0 h1 h2 h3 HW HXA
      generalize hT : tokB l[k] = T at *
      generalize hO : pcsB (joinPc true (l.take k)) = O at *
      unfold bstr
      go_upto_region 10 with fail
      go_cut [37] (fun s37 wx => s37 = .bool (!gluedA true (l.take k) && !closes T) ∧ Ext w1 wx)
      case first =>
        cases k with
        | zero =>
          have t2 : decide ((0 : Int) < ((0 : Nat) : Int)) = false := rfl
          go_quiet (fail)
          go_wp2_with fail
          go_meet
          case rel => exact ⟨rfl, Ext.drewN (Ext.refl _) _⟩
        | succ k =>
          have hk' : k < l.length := by omega
          have HGE := Lib.hid (gap_eq HGD.out hlt')
          rw [hT] at HGE
          obtain ⟨b', off', e, q0, q1, q2, q3⟩ := toks_at HT.out hk'
          cases e
          obtain ⟨c0, c1, c2, c3, cf⟩ := blkT HC.out
          replace q0 := HX1.out.cell q0
          replace q1 := HX1.out.cell q1
          replace q2 := HX1.out.cell q2
          replace q3 := HX1.out.cell q3
          have HAP := Lib.hid (sapart_calls l[k] l[k + 1])
          generalize apartB l[k] l[k + 1] = g at *
          refine wp_region_growLG (m := 11) (n := 40) [10] (GJ w1) EJ (RJ (tabJ (.slice (some ⟨b, off, none⟩) n c) k b (off + k * 4) (tokV l[k]) (tokV l[k + 1]) g)) (by kernel_rfl) (by kernel_rfl) (Nat.le_of_ble_eq_true rfl) (gdJ (by kernel_rfl)) ((Ext.refl _).drew) (fun _ _ _ _ _ _ _ _ _ hR _ => hR) ?_ ?_
          · intro i o hi ho L vs W hiL hnc hG hd ρ hρ
            have hi' : i = 0 ∨ i = 1 ∨ i = 2 ∨ i = 3 ∨ i = 4 ∨ i = 5 ∨ i = 6 ∨ i = 7 ∨ i = 8 ∨ i = 9 ∨ i = 10 := by omega
            clear hi hiL hnc
            have o0 : ρ (.tmp 0) = .slice (some ⟨b, off, none⟩) n c := hρ.out 0 rfl
            have o5 : ρ (.tmp 5) = .int .i64 (k + 1 : Nat) := hρ.out 5 rfl
            have o6 : ρ (.tmp 6) = .pointer (some ⟨wr.heap.size, 0, none⟩) := hρ.out 6 rfl
            have hcs := hρ.const
            have hfn := hρ.func
            have hW : Ext w1 W := hG
            have HG := Lib.hid hW
            replace q0 := hW.cell q0
            replace q1 := hW.cell q1
            replace q2 := hW.cell q2
            replace q3 := hW.cell q3
            replace c0 := hW.cell c0
            replace c1 := hW.cell c1
            replace c2 := hW.cell c2
            replace c3 := hW.cell c3
            have hzW := hW.size
            have hkn : k < n := by omega
            clear hG hW
            rcases hi' with rfl | rfl | rfl | rfl | rfl | rfl | rfl | rfl | rfl | rfl | rfl
            · cases ho
              clear hρ hd
              unfold GivesOp
              go_simp
              exact ⟨Ext.refl W, HG.out, rfl⟩
            · cases ho
              have i0 := hρ.ins 0 27 (by omega) rfl (Nat.le_of_ble_eq_true rfl)
              have h0 : vs 0 = _ := hd ⟨0, .data⟩ (by simp) rfl
              rw [h0] at i0
              dsimp only [tabJ, List.getD_cons_zero, List.getD_cons_succ] at i0
              clear hρ hd
              unfold GivesOp
              go_simp
              exact ⟨Ext.refl W, HG.out, rfl⟩
            · cases ho
              have i1 := hρ.ins 1 28 (by omega) rfl (Nat.le_of_ble_eq_true rfl)
              have h1 : vs 1 = _ := hd ⟨1, .data⟩ (by simp) rfl
              rw [h1] at i1
              dsimp only [tabJ, List.getD_cons_zero, List.getD_cons_succ] at i1
              clear hρ hd
              unfold GivesOp
              go_simp
              exact ⟨Ext.refl W, HG.out, rfl⟩
            · cases ho
              clear hρ hd
              unfold GivesOp
              go_simp
              exact ⟨Ext.refl W, HG.out, rfl⟩
            · cases ho
              clear hρ hd
              unfold GivesOp
              go_simp
              exact ⟨Ext.refl W, HG.out, rfl⟩
            · cases ho
              have i4 := hρ.ins 4 31 (by omega) rfl (Nat.le_of_ble_eq_true rfl)
              have h4 : vs 4 = _ := hd ⟨4, .data⟩ (by simp) rfl
              rw [h4] at i4
              dsimp only [tabJ, List.getD_cons_zero, List.getD_cons_succ] at i4
              clear hρ hd
              unfold GivesOp
              go_simp
              exact ⟨Ext.refl W, HG.out, show Value.int .i64 (IntKind.i64.wrap (k : Int)) = .int .i64 k by rw [IntWalk.i64_in _ (by omega)]⟩
            · cases ho
              have i3 := hρ.ins 3 30 (by omega) rfl (Nat.le_of_ble_eq_true rfl)
              have h3 : vs 3 = _ := hd ⟨3, .data⟩ (by simp) rfl
              rw [h3] at i3
              dsimp only [tabJ, List.getD_cons_zero, List.getD_cons_succ] at i3
              have i5 := hρ.ins 5 32 (by omega) rfl (Nat.le_of_ble_eq_true rfl)
              have h5 : vs 5 = _ := hd ⟨5, .data⟩ (by simp) rfl
              rw [h5] at i5
              dsimp only [tabJ, List.getD_cons_zero, List.getD_cons_succ] at i5
              clear hρ hd
              unfold GivesOp
              go_simp
              exact ⟨Ext.refl W, HG.out, rfl⟩
            · cases ho
              have i6 := hρ.ins 6 33 (by omega) rfl (Nat.le_of_ble_eq_true rfl)
              have h6 : vs 6 = _ := hd ⟨6, .data⟩ (by simp) rfl
              rw [h6] at i6
              dsimp only [tabJ, List.getD_cons_zero, List.getD_cons_succ] at i6
              clear hρ hd
              unfold GivesOp
              go_simp
              exact ⟨Ext.refl W, HG.out, rfl⟩
            · cases ho
              clear hρ hd
              unfold GivesOp
              go_simp
              exact ⟨Ext.refl W, HG.out, rfl⟩
            · cases ho
              have i7 := hρ.ins 7 34 (by omega) rfl (Nat.le_of_ble_eq_true rfl)
              have h7 : vs 7 = _ := hd ⟨7, .data⟩ (by simp) rfl
              rw [h7] at i7
              dsimp only [tabJ, List.getD_cons_zero, List.getD_cons_succ] at i7
              have i8 := hρ.ins 8 35 (by omega) rfl (Nat.le_of_ble_eq_true rfl)
              have h8 : vs 8 = _ := hd ⟨8, .data⟩ (by simp) rfl
              rw [h8] at i8
              dsimp only [tabJ, List.getD_cons_zero, List.getD_cons_succ] at i8
              clear hρ hd
              unfold GivesOp
              go_simp
              refine (HAP.out W).mono ?_
              rintro r W' ⟨rfl, hx⟩
              exact ⟨_, rfl, hx, HG.out.trans hx, rfl⟩
            · cases ho
              have i2 := hρ.ins 2 29 (by omega) rfl (Nat.le_of_ble_eq_true rfl)
              have h2 : vs 2 = _ := hd ⟨2, .data⟩ (by simp) rfl
              rw [h2] at i2
              dsimp only [tabJ, List.getD_cons_zero, List.getD_cons_succ] at i2
              have i9 := hρ.ins 9 36 (by omega) rfl (Nat.le_of_ble_eq_true rfl)
              have h9 : vs 9 = _ := hd ⟨9, .data⟩ (by simp) rfl
              rw [h9] at i9
              dsimp only [tabJ, List.getD_cons_zero, List.getD_cons_succ] at i9
              clear hρ hd
              unfold GivesOp
              go_simp
              exact ⟨Ext.refl W, HG.out, rfl⟩
          · intro L vs W _ hG hR
            rw [if_pos (by decide +kernel)]
            have r10 : vs 10 = .bool g := hR 10 (by simp) (by omega)
            have hW : Ext w1 W := hG
            have HFIN := Lib.hid hW
            clear hG hR hW
            simp only [acts, dstAt, List.range, List.range.loop, List.foldl_cons, List.foldl_nil, r10]
            go_simp
            go_wp2_with fail
            go_meet
            case rel => exact ⟨by rw [HGE.out], HFIN.out⟩
      case rest =>
        obtain ⟨rfl, hxx⟩ := hcut
        have HX2 := Lib.hid (HX1.out.trans hxx)
        have HB2 := Lib.hid (bld_ext HB1.out hxx)
        clear hxx HB1 HX1 HC
        have HBO := Lib.hid (bytes_app O [32])
        have HBT := Lib.hid (bytes_app O T)
        have HBT3 := Lib.hid (bytes_app (O ++ [32]) T)
        obtain ⟨hl1, hl2⟩ := HL.out
        have hsz : (⟨T.toArray⟩ : ByteArray).size = T.length := by simp [ByteArray.size]
        cases hsp : (!gluedA true (l.take k) && !closes T) with
        | true =>
          have HPC2 := Lib.hid (show pcsB (joinPc true (l.take (k + 1))) = O ++ [32] ++ T by rw [HPC.out, hsp]; simp)
          clear HPC hsp
          go_wp2_with fail
          refine (writeByte_calls _ _ _ _ _ HB2.out (by rw [Lib.byteCells_length]; omega) HX2.out.size).mono ?_
          rintro r w2 ⟨rfl, hb2, hw2⟩
          have HX3 := Lib.hid (show Ext w w2 from Below.trans HX2.out hw2)
          have HB3 := Lib.hid (show Lib.IsBuilder 104 5 w.heap.size w.heap.size (Lib.byteCells (O ++ [32])) w2 from Or.inr (by rw [← HBO.out]; exact hb2))
          clear hb2 hw2
          go_wp2_with fail
          refine (writeString_calls _ _ _ _ _ HB3.out (by (rw [Lib.byteCells_length, hsz]); (try simp only [List.length_append, List.length_cons, List.length_nil]); omega) HX3.out.size).mono ?_
          rintro r w3 ⟨rfl, hb3, hw3⟩
          have HX4 := Lib.hid (show Ext w w3 from Below.trans HX3.out hw3)
          have HB4 := Lib.hid (show Lib.IsBuilder 104 5 w.heap.size w.heap.size (Lib.byteCells (O ++ [32] ++ T)) w3 from Or.inr (by rw [← HBT3.out]; exact hb3))
          clear hb3 hw3
          go_wp2_with fail
          go_roundg (n - (k + 1))
          case measure => have := HGN.out; omega
          case rel => exact ⟨k + 1, by omega, rfl, by go_num, by rw [HPC2.out]; exact HB4.out, HX4.out⟩
        | false =>
          have HPC2 := Lib.hid (show pcsB (joinPc true (l.take (k + 1))) = O ++ T by rw [HPC.out, hsp]; simp)
          clear HPC hsp
          go_wp2_with fail
          refine (writeString_calls _ _ _ _ _ HB2.out (by (rw [Lib.byteCells_length, hsz]); (try simp only [List.length_append, List.length_cons, List.length_nil]); omega) HX2.out.size).mono ?_
          rintro r w3 ⟨rfl, hb3, hw3⟩
          have HX4 := Lib.hid (show Ext w w3 from Below.trans HX2.out hw3)
          have HB4 := Lib.hid (show Lib.IsBuilder 104 5 w.heap.size w.heap.size (Lib.byteCells (O ++ T)) w3 from Or.inr (by rw [← HBT.out]; exact hb3))
          clear hb3 hw3
          go_wp2_with fail
          go_roundg (n - (k + 1))
          case measure => have := HGN.out; omega
          case rel => exact ⟨k + 1, by omega, rfl, by go_num, by rw [HPC2.out]; exact HB4.out, HX4.out⟩
    · have HE2 := Lib.hid (show l.take k = l from List.take_of_length_le (by have := HN.out; omega))
      have t1 : decide ((k : Int) < (n : Int)) = false := by simp; omega
      rw [HE2.out] at HB
      generalize hO : pcsB (joinPc true l) = O at *
      go_wp2_with fail
      refine (Tryz.Builder_Len _ _ _ _ HB.out).mono ?_
      rintro r w1 ⟨rfl, rfl⟩
      rw [Lib.byteCells_length]
      by_cases hl : 16384 < O.length
      · have tO : decide (16384 < (O.length : Int)) = true := by simp; omega
        rw [if_pos hl] at HR
        clear HB
        go_wp2_with fail
        go_ret2
        rw [HR.out]
        exact ⟨rfl, HX.out⟩
      · have tO : decide (16384 < (O.length : Int)) = false := by simp; omega
        rw [if_neg hl] at HR
        go_wp2_with fail
        refine (Tryz.Builder_String_any _ _ _ _ HB.out HX.out.size).mono ?_
        rintro r w1 ⟨rfl, hb1⟩
        have HX1 := Lib.hid (show Ext w w1 from Below.trans HX.out hb1)
        go_wp2_with fail
        go_ret2
        rw [HR.out]
        exact ⟨rfl, HX1.out⟩
end Go.Proofs.YtaepiiediblleaaGreatDoor
