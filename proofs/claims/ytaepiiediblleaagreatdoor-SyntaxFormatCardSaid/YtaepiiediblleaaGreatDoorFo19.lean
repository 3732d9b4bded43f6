/-
  Texts of the claim, joined: RJoin3.
-/
import Derived.Test.YtaepiiediblleaaGreatDoorFo18
import Derived.Deep.DeepCutAuto
import Derived.Deep.LoopGhost
namespace Go.Proofs.YtaepiiediblleaaGreatDoor
open Go.RowKit

set_option maxRecDepth 100000 in
set_option maxHeartbeats 2000000 in
theorem rjoin_calls (l : List Tok) (a : Option Addr) (n c : Nat) (w : World) (ht : IsToks w l a n c) (hg : ∀ t ∈ l, goodT t) :
    Calls Tryz.prog 25 #[.slice a n c] w (JoinQ (joinR l).1 (joinR l).2 w) := by
  have HT := Lib.hid ht
  have HN := Lib.hid ht.1
  have HGD := Lib.hid hg
  have HR := Lib.hid (show joinR l = if 4000 < n then ([], 4) else if 16384 < (pcsB (joinPc true l)).length then ([], 4) else (pcsB (joinPc true l), 0) by rw [ht.1]; rfl)
  clear ht hg
  by_cases hn : 4000 < n
  · have t0 : decide (4000 < (n : Int)) = true := by simp; omega
    rw [HR.out, if_pos hn]
    clear HR
    go_enter Tryz.func25, Tryz.ntmps25
    go_wp2_with fail
    go_ret2
    exact ⟨rfl, Ext.refl w⟩
  have t0 : decide (4000 < (n : Int)) = false := by simp; omega
  rw [if_neg hn] at HR
  go_enter Tryz.func25, Tryz.ntmps25
  go_wp2_with fail
  go_loopg [4, 5, 6] n (fun g o s i wr => ∃ k : Nat, k ≤ n ∧ g = n - k ∧ i = .int .i64 k ∧ o = bstr (pcsB (joinPc true (l.take k))) ∧ s = .bool (gluedA true (l.take k)) ∧ Ext w wr)
  case atStart => exact ⟨0, by omega, rfl, rfl, rfl, rfl, Ext.refl w⟩
  case round =>
    obtain ⟨k, hk, hgk, rfl, rfl, rfl, hx⟩ := hrel
    have HGN := Lib.hid hgk
    have HX := Lib.hid hx
    clear hgk hx
    by_cases hlt : k < n
    · have hlt' : k < l.length := by have := HN.out; omega
      have t1 : decide ((k : Int) < (n : Int)) = true := by simp; omega
      obtain ⟨b, off, rfl, h0, h1, h2, h3⟩ := toks_at HT.out hlt'
      replace h0 := HX.out.cell h0
      replace h1 := HX.out.cell h1
      replace h2 := HX.out.cell h2
      replace h3 := HX.out.cell h3
      have HE := Lib.hid (show l.take (k + 1) = l.take k ++ [l[k]] by simp)
      have HW := Lib.hid (written_calls l[k] (HGD.out _ (List.getElem_mem hlt')))
      unfold tokV at HW
      have HPC := Lib.hid (show pcsB (joinPc true (l.take (k + 1))) = pcsB (joinPc true (l.take k)) ++ ((if !gluedA true (l.take k) && !closes (tokB l[k]) then [32] else []) ++ tokB l[k]) by rw [HE.out, pcs_snoc])
      have HGL := Lib.hid (show gluedA true (l.take (k + 1)) = (tokB l[k] == [40]) by rw [HE.out, gluedA_snoc])
      have hlen : (pcsB (joinPc true (l.take k))).length ≤ 200000 := by
        have e1 := pcs_le (l.take k) true (fun t ht => HGD.out t (List.mem_of_mem_take ht))
        simp only [List.length_take] at e1
        omega
      have hlen2 : (tokB l[k]).length ≤ 32 := tok_len (HGD.out _ (List.getElem_mem hlt'))
      go_wp2_with fail
      refine (HW.out _).mono ?_
      rintro r w1 ⟨rfl, hx1⟩
      have HX1 := Lib.hid (HX.out.trans hx1)
      clear hx1 h0 h1 h2 h3
      generalize pcsB (joinPc true (l.take k)) = O at *
      generalize tokB l[k] = T at *
      generalize gluedA true (l.take k) = G at *
      unfold bstr
      go_upto_region 10 with fail
      go_cut [46] (fun s46 wx => s46 = .bool (!G && !closes T) ∧ w1 = wx)
      case first =>
        have hl : (⟨T.toArray⟩ : ByteArray).toList = T := by rw [ByteArray.toList_eq]
        have HC := Lib.hid (show closes T = (T == [59] || T == [58] || T == [44] || T == [41]) from rfl)
        cases G with
        | true =>
          go_wp2_with fail
          go_meet
          case rel => exact ⟨rfl, rfl⟩
        | false =>
          cases h59 : (T == [59]) with
          | true =>
            have HP := Lib.hid (show (!false && !closes T) = false by rw [HC.out, h59]; rfl)
            go_wp2_with fail
            go_meet
            case rel => exact ⟨by rw [HP.out], rfl⟩
          | false =>
          cases h58 : (T == [58]) with
          | true =>
            have HP := Lib.hid (show (!false && !closes T) = false by rw [HC.out, h59, h58]; rfl)
            go_wp2_with fail
            go_meet
            case rel => exact ⟨by rw [HP.out], rfl⟩
          | false =>
          cases h44 : (T == [44]) with
          | true =>
            have HP := Lib.hid (show (!false && !closes T) = false by rw [HC.out, h59, h58, h44]; rfl)
            go_wp2_with fail
            go_meet
            case rel => exact ⟨by rw [HP.out], rfl⟩
          | false =>
            have HP := Lib.hid (show (!false && !closes T) = !(T == [41]) by rw [HC.out, h59, h58, h44]; rfl)
            cases h41 : (T == [41]) with
            | true =>
              rw [h41] at HP
              go_wp2_with fail
              go_meet
              case rel => exact ⟨by rw [HP.out]; rfl, rfl⟩
            | false =>
              rw [h41] at HP
              go_wp2_with fail
              go_meet
              case rel => exact ⟨by rw [HP.out]; rfl, rfl⟩
      case rest =>
        obtain ⟨rfl, rfl⟩ := hcut
        have HA1 := Lib.hid (app_str O [32])
        have HA2 := Lib.hid (app_str O T)
        have HA3 := Lib.hid (app_str (O ++ [32]) T)
        have hl : (⟨T.toArray⟩ : ByteArray).toList = T := by rw [ByteArray.toList_eq]
        cases hsp : (!G && !closes T) with
        | true =>
          have HPC2 := Lib.hid (show pcsB (joinPc true (l.take (k + 1))) = O ++ [32] ++ T by rw [HPC.out, hsp]; simp)
          clear HPC hsp
          go_wp2_with fail
          go_roundg (n - (k + 1))
          case measure => have := HGN.out; omega
          case rel => exact ⟨k + 1, by omega, rfl, by go_num, by rw [HPC2.out, bstr, ← HA3.out, ← HA1.out], by rw [HGL.out], HX1.out⟩
        | false =>
          have HPC2 := Lib.hid (show pcsB (joinPc true (l.take (k + 1))) = O ++ T by rw [HPC.out, hsp]; simp)
          clear HPC hsp
          go_wp2_with fail
          go_roundg (n - (k + 1))
          case measure => have := HGN.out; omega
          case rel => exact ⟨k + 1, by omega, rfl, by go_num, by rw [HPC2.out, bstr, ← HA2.out], by rw [HGL.out], HX1.out⟩
    · have HE2 := Lib.hid (show l.take k = l from List.take_of_length_le (by have := HN.out; omega))
      have t1 : decide ((k : Int) < (n : Int)) = false := by simp; omega
      rw [HE2.out]
      unfold bstr
      generalize pcsB (joinPc true l) = O at *
      by_cases hl : 16384 < O.length
      · have tO : decide (16384 < (O.length : Int)) = true := by simp; omega
        have tO2 : decide (16384 < O.length) = true := by simp; omega
        rw [if_pos hl] at HR
        go_wp2_with fail
        go_ret2
        rw [HR.out]
        exact ⟨rfl, HX.out⟩
      · have tO : decide (16384 < (O.length : Int)) = false := by simp; omega
        have tO2 : decide (16384 < O.length) = false := by simp; omega
        rw [if_neg hl] at HR
        go_wp2_with fail
        refine bodyPost_ret (v := .tuple #[bstr O, .int .i64 0]) (by simp [results, Tryz.results25, go_sem, bstr]) rfl ⟨by rw [HR.out], HX.out⟩
end Go.Proofs.YtaepiiediblleaaGreatDoor
