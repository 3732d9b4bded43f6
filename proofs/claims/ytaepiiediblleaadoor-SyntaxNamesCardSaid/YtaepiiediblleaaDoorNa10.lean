/-
  Texts of the claim, joined: Names4, Lay, Iter, Names5, Small, Grow.
-/
import Derived.Test.YtaepiiediblleaaDoorNa09
import Derived.Shelf.SlGeneric
import Derived.Shelf.SlIter.Nil
import Derived.Shelf.SortM.Plain
import Derived.Shelf.SortM.SortNone
import Derived.Ground.GgzProg
import Derived.Ground.SlgmProg
import Derived.Test.YtaepiiediblleaaDoorProg
import Derived.Test.YtaepiiediblleaaDoorNa01
import Derived.Orders
namespace Go.Proofs.YtaepiiediblleaaDoor
open Go.RowKit Go.Maps

def gath (m l : List ByteArray) : List ByteArray := m.foldl (fun l s => putL s l) l
theorem gath_append (m k l : List ByteArray) : gath (m ++ k) l = gath k (gath m l) := by simp [gath]
theorem gath_nil (l : List ByteArray) : gath [] l = l := rfl
theorem gath_one (s : ByteArray) (l : List ByteArray) : gath [s] l = putL s l := rfl
theorem gath_len (m l : List ByteArray) : (gath m l).length ≤ m.length + l.length := fold_len m l
mutual
theorem namesE_len : (e : Ex) → (namesE e).length ≤ e.size
  | .mk op name words lo hi args => by
    have := namesL_len args
    rw [namesE, Ex.size, List.length_append]
    split <;> simp <;> omega
theorem namesL_len : (l : List Ex) → (namesL l).length ≤ sizes l
  | [] => by simp [namesL, sizes]
  | e :: r => by
    have := namesE_len e
    have := namesL_len r
    rw [namesL, sizes, List.length_append]; omega
end
theorem namesL_take_len (l : List Ex) (k : Nat) : (namesL (l.take k)).length ≤ sizes l := Nat.le_trans (namesL_len _) (sizes_take_le l k)

set_option maxRecDepth 100000 in
set_option maxHeartbeats 4000000 in
theorem gather_calls (m : Nat) : m ≤ 1000000 → ∀ (e : Ex) (v : Value) (w : World) (l : List ByteArray) (a : Option Addr) (n c : Nat), e.size ≤ m → IsEx w e v → IsStrs w l a n c → n + e.size ≤ 1000000 →
    Calls Tryd.prog 43 #[.slice a n c, v] w (PutQ (gath (namesE e) l) w) := by
  induction m with
  | zero => intro _ e v w l a n c h; have := size_pos e; omega
  | succ m ih =>
    intro hMM e v w l a n c hm he hs hn
    obtain ⟨aw, nw, cw, aa, na, ca, rfl, hw, hna, hca, ha, hx⟩ := he.parts
    have hS : e.size = 1 + sizes e.args := e.size_eq
    have hla := length_le_sizes e.args
    have HX := Lib.hid ((Ext.refl w).alloc (.cells #[.int .i64 e.op, .string e.name, .slice aw nw cw, .int .i64 e.lo, .int .i64 e.hi, .slice aa na ca] 26))
    have HBX := Lib.hid (alloc_new w (.cells #[.int .i64 e.op, .string e.name, .slice aw nw cw, .int .i64 e.lo, .int .i64 e.hi, .slice aa na ca] 26))
    have HXS := Lib.hid (ExsD.ext HX.out e.args aa hx)
    have HS := Lib.hid (hs.ext HX.out)
    have HSN := Lib.hid hs.1
    have HNA := Lib.hid hna
    have HNM := Lib.hid (namesE_eq e)
    have IH := Lib.hid (ih (by omega))
    have hna2 : na ≤ 1000000 := by omega
    have hsz : sizes e.args ≤ m := by omega
    have hn2 : n + 1 + sizes e.args ≤ 1000000 := by omega
    clear hw hna hca ha hx he hs hS hla ih hm hn
    generalize namesE e = NE at *
    unfold exV
    go_enter Tryd.func43, Tryd.ntmps43
    go_upto_region 1 with fail
    generalize w.alloc (.cells #[.int .i64 e.op, .string e.name, .slice aw nw cw, .int .i64 e.lo, .int .i64 e.hi, .slice aa na ca] 26) = wb at *
    obtain ⟨b0, b1, b2, b3, b4, b5, bf⟩ := blk6 HBX.out
    have hlx := blk_lt HBX.out
    by_cases h3 : e.op = 3
    case' pos =>
      have t3 : (e.op == 3) = true := by simp [h3]
      have HNE := Lib.hid (show gath NE l = gath (namesL e.args) (putL e.name l) by rw [HNM.out, if_pos h3, gath_append, gath_one])
      have hpl := putL_len e.name l
      clear h3
      go_wp2_with fail
      refine (put_calls e.name l a n c _ HS.out (by omega)).mono ?_
      rintro r w1 ⟨a1, c1, rfl, hs1, hx1⟩
      have HS1 := Lib.hid hs1
      have HX1 := Lib.hid hx1
      have HB1 := Lib.hid (hx1.blk HBX.out)
      have hl1 : (putL e.name l).length ≤ n + 1 := by have := HSN.out; omega
      clear hs1 hx1 b0 b1 b2 b3 b4 b5 bf hlx HS HSN hpl
      generalize putL e.name l = l1 at *
      obtain ⟨n1, hn1⟩ : ∃ n1, n1 = l1.length := ⟨_, rfl⟩
      rw [← hn1] at HS1 hl1 ⊢
      clear hn1
      go_upto_region 3 with fail
    case' neg =>
      have t3 : (e.op == 3) = false := by simp [h3]
      have HNE := Lib.hid (show gath NE l = gath (namesL e.args) l by rw [HNM.out, if_neg h3]; simp)
      have HX1 := Lib.hid (Ext.refl wb)
      have HB1 := HBX
      have hl1 : n ≤ n + 1 := by omega
      have HS1 := HS
      clear h3 HS
      obtain ⟨l1, hl1e⟩ : ∃ l1, l1 = l := ⟨_, rfl⟩
      have HNE2 := Lib.hid (show gath NE l = gath (namesL e.args) l1 by rw [hl1e]; exact HNE.out)
      rw [← hl1e] at HS1 HSN
      clear hl1e HNE
      have HNE := HNE2
      clear HNE2
      go_upto_region 3 with fail
      clear b0 b1 b2 b3 b4 b5 bf hlx
    all_goals
      go_wp2_with fail
      go_loopg [0, 5] na (fun g u i wr => ∃ (j : Nat) (al : Option Addr) (nl cl : Nat), j ≤ na ∧ g = na - j ∧ i = .int .i64 j ∧ u = .slice al nl cl ∧ nl ≤ n + 1 + (namesL (e.args.take j)).length ∧ IsStrs wr (gath (namesL (e.args.take j)) l1) al nl cl ∧ Ext wb wr)
      case atStart => exact ⟨0, _, _, _, by omega, rfl, rfl, rfl, by omega, by simpa [namesL, gath_nil] using HS1.out, HX1.out⟩
      case round =>
        obtain ⟨j, al, nl, cl, hj, hgj, rfl, rfl, hnl, hsj, hxj⟩ := hrel
        have HGN := Lib.hid hgj
        have HSJ := Lib.hid hsj
        have HXJ := Lib.hid hxj
        have HNL := Lib.hid hnl
        have HBJ := Lib.hid (hxj.blk HBX.out)
        clear hsj hxj hgj hnl
        obtain ⟨b0, b1, b2, b3, b4, b5, bf⟩ := blk6 HBJ.out
        have hlx := blk_lt HBJ.out
        by_cases hlt : j < na
        · have hlt' : j < e.args.length := by have := HNA.out; omega
          have td : decide ((j : Int) < (na : Int)) = true := by simp; omega
          obtain ⟨bb, off, rfl, aw1, nw1, cw1, aa1, na1, ca1, c0, c1, c2, c3, c4, c5, c6⟩ := ExsD.at e.args _ (ExsD.ext HXJ.out _ _ HXS.out) j hlt'
          have HC6 := Lib.hid c6
          have HST := Lib.hid (sizes_take_succ e.args j hlt')
          have HSL := Lib.hid (sizes_take_le e.args (j + 1))
          have HNT := Lib.hid (namesL_take e.args j hlt')
          have HNE3 := Lib.hid (namesL_len (e.args.take j))
          clear c6
          generalize e.args[j] = a' at *
          go_wp2_with fail
          refine (IH.out a' _ _ _ al nl cl (by have := HST.out; have := HSL.out; omega) HC6.out HSJ.out (by have := HST.out; have := HSL.out; have := HNL.out; have := HNE3.out; omega)).mono ?_
          rintro r w2 ⟨a2, c2', rfl, hs2, hx2⟩
          have HL2 := Lib.hid (show (gath (namesE a') (gath (namesL (e.args.take j)) l1)).length ≤ n + 1 + (namesL (e.args.take (j + 1))).length by
            have h1 := gath_len (namesE a') (gath (namesL (e.args.take j)) l1)
            have h2 := HSJ.out.1
            have h3 := HNL.out
            rw [HNT.out, List.length_append]; omega)
          have HS2 := Lib.hid (show IsStrs w2 (gath (namesL (e.args.take (j + 1))) l1) a2 (gath (namesE a') (gath (namesL (e.args.take j)) l1)).length c2' by rw [HNT.out, gath_append]; exact hs2)
          have HX2 := Lib.hid (HXJ.out.trans hx2)
          clear hs2 hx2 c0 c1 c2 c3 c4 c5 b0 b1 b2 b3 b4 b5 bf hlx
          generalize (gath (namesE a') (gath (namesL (e.args.take j)) l1)).length = n2 at *
          go_wp2_with fail
          go_roundg (na - (j + 1))
          case measure => have := HGN.out; omega
          case rel => exact ⟨j + 1, a2, n2, c2', by omega, rfl, by go_num, rfl, HL2.out, HS2.out, HX2.out⟩
        · have HE2 := Lib.hid (show e.args.take j = e.args from List.take_of_length_le (by have := HNA.out; omega))
          have td : decide ((j : Int) < (na : Int)) = false := by simp; omega
          rw [HE2.out, ← HNE.out] at HSJ
          have HLN := Lib.hid HSJ.out.1
          go_wp2_with fail
          go_ret
          refine ⟨al, cl, ?_, ?_, HX.out.trans HXJ.out⟩
          · rw [← HLN.out]; rfl
          · rw [← HLN.out]; exact HSJ.out

/-- The reference's Names. -/
theorem rnames_calls (e : Ex) (v : Value) (w : World) (hs : e.size ≤ 900000) (he : IsEx w e v) : Calls Tryd.prog 26 #[v] w (PutQ (refNames (namesE e)) w) := by
  obtain ⟨aw, nw, cw, aa, na, ca, rfl, -, -, -, -, -⟩ := he.parts
  have HX := Lib.hid ((Ext.refl w).alloc (.cells #[.int .i64 e.op, .string e.name, .slice aw nw cw, .int .i64 e.lo, .int .i64 e.hi, .slice aa na ca] 26))
  have HE := Lib.hid (he.ext HX.out)
  clear he
  unfold exV at *
  go_enter Tryd.func26, Tryd.ntmps26
  go_wp2_with fail
  refine (gather_calls 900000 (by omega) e _ _ [] none 0 0 hs HE.out ⟨rfl, Nat.le_refl 0, Or.inl ⟨rfl, rfl⟩, fun i hi => by simp at hi⟩ (by omega)).mono ?_
  rintro r w1 ⟨a1, c1, rfl, hs1, hx1⟩
  have HS1 := Lib.hid hs1
  have HX1 := Lib.hid (HX.out.trans hx1)
  clear hs1 hx1
  go_wp2_with fail
  go_ret
  exact ⟨a1, c1, rfl, HS1.out, HX1.out⟩
end Go.Proofs.YtaepiiediblleaaDoor

/-
  DERIVED: THE SHELF's CONTRACTS AT THIS DUMP, IN PLAIN WORDS (tools/lay-plain.mjs out of 'TrydLay.lean', which tools/lay-shelf.mjs wrote): THE SAME DECLARATIONS UNDER THE SAME NAMES: 'import', 'namespace', 'open', 'def', 'theorem' AND NOTHING ELSE: no command of the shelf's: FOR A HAND-IN. Each laying: the table of numbers ('.._ren') and one theorem, a field a fact of the dump's own or the kernel's comparison; each contract: ONE APPLICATION.
-/
namespace Go.Proofs
open Go.Shelf
def Tryd.keys42_ren : Go.Shelf.Ren := ⟨fun | 7 => 42 | 10 => 62 | n => n, fun | 23 => 69 | 26 => 9 | 3 => 75 | 28 => 73 | 0 => 0 | 27 => 72 | 33 => 100 | 4 => 4 | n => n, fun | n => n⟩
theorem Tryd.keys42 : Go.Proofs.SlLaysZ.n7 Tryd.prog Tryd.keys42_ren := {
  mixed := by kernel_rfl
  f7 := ⟨Tryd.f42.name, by decide, Tryd.func42.trans (congrArg some (by kernel_rfl))⟩
  f10 := ⟨Tryd.f62.name, by decide, Tryd.func62.trans (congrArg some (by kernel_rfl))⟩
  t0 := Tryd.underlying0
  a0 := Tryd.isAgg0
  z0 := Tryd.sizeOf0
  v0 := Tryd.zeroValue0
  t4 := Tryd.underlying4
  a4 := Tryd.isAgg4
  z4 := Tryd.sizeOf4
  v4 := Tryd.zeroValue4
  t23 := Tryd.underlying69
  a23 := Tryd.isAgg69
  z23 := Tryd.sizeOf69
  v23 := Tryd.zeroValue69
  t26 := Tryd.underlying9
  a26 := Tryd.isAgg9
  z26 := Tryd.sizeOf9
  v26 := Tryd.zeroValue9
  t27 := Tryd.underlying72
  a27 := Tryd.isAgg72
  z27 := Tryd.sizeOf72
  v27 := Tryd.zeroValue72
  t28 := Tryd.underlying73
  a28 := Tryd.isAgg73
  z28 := Tryd.sizeOf73
  v28 := Tryd.zeroValue73
  t33 := Tryd.underlying100
  a33 := Tryd.isAgg100
  z33 := Tryd.sizeOf100
  v33 := Tryd.zeroValue100 }
def Tryd.sorted41_ren : Go.Shelf.Ren := ⟨fun | 6 => 41 | 8 => 60 | 9 => 61 | 11 => 89 | 13 => 91 | 12 => 90 | 23 => 117 | 24 => 118 | 14 => 108 | 15 => 109 | 16 => 110 | 17 => 111 | 18 => 112 | 19 => 113 | 20 => 114 | 21 => 115 | 22 => 116 | 25 => 125 | 26 => 126 | 27 => 127 | 28 => 128 | 29 => 129 | 30 => 130 | 31 => 132 | n => n, fun | 26 => 9 | 28 => 73 | 24 => 23 | 0 => 0 | 3 => 3 | 37 => 118 | 48 => 145 | 50 => 147 | 4 => 4 | 40 => 137 | 39 => 136 | 45 => 142 | 5 => 5 | 9 => 9 | 51 => 151 | 55 => 63 | 57 => 157 | 58 => 158 | 33 => 100 | n => n, fun | n => n⟩
theorem Tryd.sorted41 : Go.Proofs.SlLaysZ.n6 Tryd.prog Tryd.sorted41_ren := {
  mixed := by kernel_rfl
  f6 := ⟨Tryd.f41.name, by decide, Tryd.func41.trans (congrArg some (by kernel_rfl))⟩
  f8 := ⟨Tryd.f60.name, by decide, Tryd.func60.trans (congrArg some (by kernel_rfl))⟩
  f11 := ⟨Tryd.f89.name, by decide, Tryd.func89.trans (congrArg some (by kernel_rfl))⟩
  t0 := Tryd.underlying0
  a0 := Tryd.isAgg0
  z0 := Tryd.sizeOf0
  v0 := Tryd.zeroValue0
  t24 := Tryd.underlying23
  a24 := Tryd.isAgg23
  z24 := Tryd.sizeOf23
  v24 := Tryd.zeroValue23
  t26 := Tryd.underlying9
  a26 := Tryd.isAgg9
  z26 := Tryd.sizeOf9
  v26 := Tryd.zeroValue9
  t28 := Tryd.underlying73
  a28 := Tryd.isAgg73
  z28 := Tryd.sizeOf73
  v28 := Tryd.zeroValue73
  i26 := by kernel_rfl }
def Tryd.sort61_ren : Go.Shelf.Ren := ⟨fun | 6 => 61 | 8 => 91 | 9 => 90 | 19 => 117 | 20 => 118 | 21 => 108 | 22 => 109 | 23 => 110 | 24 => 111 | 25 => 112 | 26 => 113 | 27 => 114 | 28 => 115 | 29 => 116 | 36 => 125 | 31 => 126 | 32 => 127 | 37 => 128 | 38 => 129 | 39 => 130 | 41 => 132 | n => n, fun | 27 => 23 | 29 => 9 | 3 => 3 | 32 => 118 | 26 => 23 | 0 => 0 | 44 => 145 | 46 => 147 | 4 => 4 | 36 => 137 | 35 => 136 | 41 => 142 | 5 => 5 | 9 => 9 | 53 => 151 | 57 => 63 | 63 => 157 | 64 => 158 | n => n, fun | n => n⟩
theorem Tryd.sort61 : Go.Proofs.SlLaysM.n6 Tryd.prog Tryd.sort61_ren := {
  mixed := by kernel_rfl
  f6 := ⟨Tryd.f61.name, by decide, Tryd.func61.trans (congrArg some (by kernel_rfl))⟩
  f8 := Tryd.func91.trans (congrArg some (by kernel_rfl))
  f9 := ⟨Tryd.f90.name, by decide, Tryd.func90.trans (congrArg some (by kernel_rfl))⟩
  f19 := Tryd.func117.trans (congrArg some (by kernel_rfl))
  f20 := Tryd.func118.trans (congrArg some (by kernel_rfl))
  f21 := ⟨Tryd.f108.name, by decide, Tryd.func108.trans (congrArg some (by kernel_rfl))⟩
  f22 := ⟨Tryd.f109.name, by decide, Tryd.func109.trans (congrArg some (by kernel_rfl))⟩
  f23 := ⟨Tryd.f110.name, by decide, Tryd.func110.trans (congrArg some (by kernel_rfl))⟩
  f24 := ⟨Tryd.f111.name, by decide, Tryd.func111.trans (congrArg some (by kernel_rfl))⟩
  f25 := ⟨Tryd.f112.name, by decide, Tryd.func112.trans (congrArg some (by kernel_rfl))⟩
  f26 := ⟨Tryd.f113.name, by decide, Tryd.func113.trans (congrArg some (by kernel_rfl))⟩
  f27 := ⟨Tryd.f114.name, by decide, Tryd.func114.trans (congrArg some (by kernel_rfl))⟩
  f28 := ⟨Tryd.f115.name, by decide, Tryd.func115.trans (congrArg some (by kernel_rfl))⟩
  f29 := ⟨Tryd.f116.name, by decide, Tryd.func116.trans (congrArg some (by kernel_rfl))⟩
  f31 := Tryd.func126.trans (congrArg some (by kernel_rfl))
  f32 := Tryd.func127.trans (congrArg some (by kernel_rfl))
  f36 := ⟨Tryd.f125.name, by decide, Tryd.func125.trans (congrArg some (by kernel_rfl))⟩
  f37 := ⟨Tryd.f128.name, by decide, Tryd.func128.trans (congrArg some (by kernel_rfl))⟩
  f38 := ⟨Tryd.f129.name, by decide, Tryd.func129.trans (congrArg some (by kernel_rfl))⟩
  f39 := ⟨Tryd.f130.name, by decide, Tryd.func130.trans (congrArg some (by kernel_rfl))⟩
  f41 := ⟨Tryd.f132.name, by decide, Tryd.func132.trans (congrArg some (by kernel_rfl))⟩
  t0 := Tryd.underlying0
  a0 := Tryd.isAgg0
  z0 := Tryd.sizeOf0
  v0 := Tryd.zeroValue0
  t3 := Tryd.underlying3
  a3 := Tryd.isAgg3
  z3 := Tryd.sizeOf3
  v3 := Tryd.zeroValue3
  t4 := Tryd.underlying4
  a4 := Tryd.isAgg4
  z4 := Tryd.sizeOf4
  v4 := Tryd.zeroValue4
  t5 := Tryd.underlying5
  a5 := Tryd.isAgg5
  z5 := Tryd.sizeOf5
  v5 := Tryd.zeroValue5
  t9 := Tryd.underlying9
  a9 := Tryd.isAgg9
  z9 := Tryd.sizeOf9
  v9 := Tryd.zeroValue9
  t26 := Tryd.underlying23
  a26 := Tryd.isAgg23
  z26 := Tryd.sizeOf23
  v26 := Tryd.zeroValue23
  t27 := Tryd.underlying23
  a27 := Tryd.isAgg23
  z27 := Tryd.sizeOf23
  v27 := Tryd.zeroValue23
  t29 := Tryd.underlying9
  a29 := Tryd.isAgg9
  z29 := Tryd.sizeOf9
  v29 := Tryd.zeroValue9
  t32 := Tryd.underlying118
  a32 := Tryd.isAgg118
  z32 := Tryd.sizeOf118
  v32 := Tryd.zeroValue118
  t35 := Tryd.underlying136
  a35 := Tryd.isAgg136
  z35 := Tryd.sizeOf136
  v35 := Tryd.zeroValue136
  t36 := Tryd.underlying137
  a36 := Tryd.isAgg137
  z36 := Tryd.sizeOf137
  v36 := Tryd.zeroValue137
  t41 := Tryd.underlying142
  a41 := Tryd.isAgg142
  z41 := Tryd.sizeOf142
  v41 := Tryd.zeroValue142
  t44 := Tryd.underlying145
  a44 := Tryd.isAgg145
  z44 := Tryd.sizeOf145
  v44 := Tryd.zeroValue145
  t46 := Tryd.underlying147
  a46 := Tryd.isAgg147
  z46 := Tryd.sizeOf147
  v46 := Tryd.zeroValue147
  t53 := Tryd.underlying151
  a53 := Tryd.isAgg151
  z53 := Tryd.sizeOf151
  v53 := Tryd.zeroValue151
  t57 := Tryd.underlying63
  a57 := Tryd.isAgg63
  z57 := Tryd.sizeOf63
  v57 := Tryd.zeroValue63
  t63 := Tryd.underlying157
  a63 := Tryd.isAgg157
  z63 := Tryd.sizeOf157
  v63 := Tryd.zeroValue157
  t64 := Tryd.underlying158
  a64 := Tryd.isAgg158
  z64 := Tryd.sizeOf158
  v64 := Tryd.zeroValue158 }
end Go.Proofs

/-
  slices.Sorted(maps.Keys(m)) at this program: the shelf's contracts, as lay-iter.mjs lays them.
-/
namespace Go.Proofs
open Go.RowKit Go.Maps Go.Sort Go.Shelf

theorem Tryd.sorts41 (m : Nat) : AnyZ.SortsIn Tryd.prog Tryd.sorted41_ren Fence.wide m :=
  ⟨fun blk off cap ss W hH hblk hsz => callsIn_wide.2 (AnyM.slices_Sort_string Tryd.sort61 blk off cap ss W hH hblk hsz),
   fun p cap W => callsIn_wide.2 (AnyM.slices_Sort_string_none Tryd.sort61 p cap W)⟩

theorem Tryd.maps_Keys_42 (mb : Option Nat) (W : World) : CallsIn Fence.wide 5 Tryd.prog 42 #[.map mb] W fun e w' => e = .returned (.func (.func 62) #[] #[.pointer (some ⟨W.heap.size, 0, none⟩)]) ∧ w' = W.alloc (.cells #[.map mb] 69) :=
  AnyZ.keys_in Tryd.keys42 Fence.wide 5 trivial rfl mb W

set_option maxHeartbeats 1000000 in
theorem Tryd.slices_Sorted_keys_41_42 {H : Type} (b nn : Nat) (D0 : DataW H) (R : Value → Option (DataW H × List MemPlace)) (w : World) (hown : w.ownsMap Tryd.prog 9 R b nn D0) (hmax : Maps.size D0 ≤ maxLen) (hbytes : Maps.size D0 * 16 ≤ 140737488355328) :
    CallsIn Fence.wide 5 Tryd.prog 41 #[.func (.func 62) #[] #[.pointer (some ⟨w.heap.size, 0, none⟩)]] (w.alloc (.cells #[.map (some b)] 69)) fun e w' => ∃ (v : Value) (ss : List (List UInt8)), e = .returned v ∧ ss.Perm (strKeys D0) ∧
      w'.ownsRow (w.alloc (.cells #[.map (some b)] 69)).heap.size 9 1 v ss.length ((ss.mergeSort (fun x y => decide (x ≤ y))).map encStr) ∧ (v = .slice none 0 0 ↔ ss = []) ∧ Below (w.alloc (.cells #[.map (some b)] 69)).heap.size (w.alloc (.cells #[.map (some b)] 69)) w' := by
  have hbl := hown.lt
  have hseq : SeqGives Fence.wide 2 Tryd.prog 62 #[.pointer (some ⟨w.heap.size, 0, none⟩)] encStr (fun ss => ss.Perm (strKeys D0)) (Maps.size D0) (w.alloc (.cells #[.map (some b)] 69)) :=
    AnyZ.keys_gives (ρ := Tryd.keys42_ren) { Tryd.keys42 with } Fence.wide _ trivial rfl (by omega) w.heap.size b nn D0 _ (by simp) (by simp) (by
      obtain ⟨es, clock, hb, Ft, hs, hD⟩ := hown
      exact ⟨es, clock, (Below.heap_alloc _ _ b hbl).trans hb, Ft, hs, hD⟩)
  exact AnyZ.sorted_in Tryd.sorted41 Fence.wide 5 trivial trivial trivial trivial rfl (by omega) (Tryd.sorts41 _) (enters_of Tryd.func61 (by kernel_rfl) rfl) 62 #[.pointer (some ⟨w.heap.size, 0, none⟩)] trivial (enters_of Tryd.func62 (by kernel_rfl) rfl) _ _ hmax hbytes _ hseq

end Go.Proofs

namespace Go.Proofs.YtaepiiediblleaaDoor
open Go.RowKit Go.Maps Go.Sort Go.Shelf

theorem strs_of_row {w : World} {base : Nat} {l : List ByteArray} {v : Value} {n : Nat} (h : w.ownsRow base 9 1 v n ((l.map (·.data.toList)).map encStr)) (hn : n = l.length) : ∃ a c, v = .slice a l.length c ∧ IsStrs w l a l.length c := by
  subst hn
  have e : (l.map (·.data.toList)).map encStr = l.flatMap strCells := by
    clear h
    induction l with
    | nil => rfl
    | cons x r ih => simp only [List.map_cons, ih, List.flatMap_cons, strCells]; rfl
  rw [e] at h
  obtain ⟨a, c, h1, _, h2⟩ := strs_of_owns h [] (by simp)
  exact ⟨a, c, h1, h2⟩

theorem size_owned {w : World} {b n : Nat} {D : DataW Unit} {R : Value → Option (DataW Unit × List MemPlace)} (h : w.ownsMap Tryd.prog 9 R b n D) : Maps.size D ≤ n := by
  obtain ⟨es, clock, _, _, hs, rfl⟩ := h
  simp only [Maps.size]
  rw [length_sorted]
  simpa using hs

set_option maxRecDepth 100000 in
set_option maxHeartbeats 4000000 in
/-- Names hands back the names in ascending order, each once. -/
theorem synNames_calls (e : Ex) (v : Value) (w : World) (hs : e.size ≤ 900000) (hf : e.fits) (he : IsEx w e v) : Calls Tryd.prog 25 #[v] w (PutQ (refNames (namesE e)) w) := by
  obtain ⟨aw, nw, cw, aa, na, ca, rfl, -, -, -, -, -⟩ := he.parts
  have HX := Lib.hid (((Ext.refl w).alloc (.cells #[.int .i64 e.op, .string e.name, .slice aw nw cw, .int .i64 e.lo, .int .i64 e.hi, .slice aa na ca] 26)).alloc (.map #[] 0))
  have HSET := Lib.hid (show SetAt ((w.alloc (.cells #[.int .i64 e.op, .string e.name, .slice aw nw cw, .int .i64 e.lo, .int .i64 e.hi, .slice aa na ca] 26)).alloc (.map #[] 0)) (w.heap.size + 1) 0 [] from
    ⟨.map [], by have := World.ownsMap_made (H := Unit) (w.alloc (.cells #[.int .i64 e.op, .string e.name, .slice aw nw cw, .int .i64 e.lo, .int .i64 e.hi, .slice aa na ca] 26)) Tryd.prog 9 unitElem; simpa using this, setIs_nil⟩)
  have HE := Lib.hid (show IsEx (mask ((w.alloc (.cells #[.int .i64 e.op, .string e.name, .slice aw nw cw, .int .i64 e.lo, .int .i64 e.hi, .slice aa na ca] 26)).alloc (.map #[] 0)) [w.heap.size + 1]) e (exV e.op e.name aw nw cw e.lo e.hi aa na ca) from
    he.mono (fun p q hp => by
      have hb := block_lt hp
      rw [mask_cell, if_neg (by simp; omega)]
      exact HX.out.cell hp))
  have HC := Lib.hid (collect_calls 900000 (by omega) e _ _ _ _ _ hs hf HE.out HSET.out (by omega))
  have hmm := @run_makeMap Tryd.prog
  rw [List.nil_append] at HC
  clear he HSET HE
  unfold exV at *
  refine (callsIn_wide (n := 6)).1 ?_
  have hfK : Fence.wide.fn 42 := trivial
  have hfS : Fence.wide.fn 41 := trivial
  have hfC : Fence.wide.fn 40 := trivial
  refine callsIn_of_wp Tryd.func25 rfl trivial ?_ rfl
  simp only [Tryd.ntmps25, List.size_toArray, List.length_cons, List.length_nil, Nat.reduceAdd, Nat.reduceSub, Array.replicate_succ, Array.replicate_zero, List.push_toArray, List.append_toArray, List.nil_append, List.cons_append]
  gi_wp2_with (first
    | (gi_at_call 40; refine (callsIn_wide.2 HC.out).mono ?_; rintro r w1 ⟨rfl, hset1, hc1⟩)
    | (gi_at_call 42; refine (Tryd.maps_Keys_42 _ _).mono ?_; rintro r w' ⟨rfl, rfl⟩))
  obtain ⟨D, hown, hsi⟩ := hset1
  have hsize := size_owned hown
  have hwx := hc1.ext HX.out (by simp)
  have HX1 := Lib.hid hwx
  have HSI := Lib.hid hsi
  clear hc1 hsi hwx
  refine (Tryd.slices_Sorted_keys_41_42 (w.heap.size + 1) _ D _ w1 hown (by unfold maxLen; omega) (by omega)).mono ?_
  rintro r w2 ⟨v, ss, rfl, hS, hrow, -, hb⟩
  have hsame := names_same HSI.out hS
  have hlen : ss.length = (refNames (namesE e)).length := by
    have := congrArg List.length hsame
    simpa using this
  rw [hsame] at hrow
  obtain ⟨ra, rc, rfl, hst⟩ := strs_of_row hrow hlen
  have HST := Lib.hid hst
  have HX2 := Lib.hid ((HX1.out.alloc (.cells #[.map (some (w.heap.size + 1))] 69)).trans hb)
  clear hrow hst hb hS hsame hlen hown hsize
  gi_wp2_with (fail)
  go_ret
  exact ⟨ra, rc, rfl, HST.out, HX2.out⟩
end Go.Proofs.YtaepiiediblleaaDoor

namespace Go.Proofs.YtaepiiediblleaaDoor
open Go.RowKit

theorem small_calls (e : Ex) (v : Value) (w : World) (he : IsEx w e v) : Calls Tryd.prog 17 #[v] w (GivesE (.bool (decide (refSize e ≤ 300))) w) := by
  obtain ⟨aw, nw, cw, aa, na, ca, rfl, hw, hna, hca, ha, hx⟩ := he.parts
  have HX := Lib.hid ((Ext.refl w).alloc (.cells #[.int .i64 e.op, .string e.name, .slice aw nw cw, .int .i64 e.lo, .int .i64 e.hi, .slice aa na ca] 26))
  have HC := Lib.hid (rsize_calls e.size e _ _ (Nat.le_refl _) (he.ext HX.out))
  clear hw hna hca ha hx he
  unfold exV at *
  go_enter Tryd.func17, Tryd.ntmps17
  go_wp2_with fail
  refine HC.out.mono ?_
  rintro r w1 ⟨rfl, hx1⟩
  have HX1 := Lib.hid (HX.out.trans hx1)
  clear hx1
  generalize refSize e = N at *
  go_wp2_with fail
  all_goals (go_ret; exact givesE_bool (by rw [Bool.eq_iff_iff]; simp; try omega) HX1.out)

end Go.Proofs.YtaepiiediblleaaDoor

namespace Go.Proofs.YtaepiiediblleaaDoor
open Go.RowKit

/-- The slot into which operation j writes. -/
def dstAt (ops : Array Oper) (j : Nat) : Option Tmp := (ops[j]?).bind (·.dst)
/-- The frame after the operations of L, with the values vs. -/
def acts (ops : Array Oper) (a : Act) (vs : Nat → Value) (L : List Nat) : Act := L.foldl (fun b j => b.put (dstAt ops j) (vs j)) a

theorem acts_snoc (ops : Array Oper) (a : Act) (vs : Nat → Value) (L : List Nat) (i : Nat) : acts ops a vs (L ++ [i]) = (acts ops a vs L).put (dstAt ops i) (vs i) := by simp [acts]
theorem acts_congr {ops : Array Oper} {a : Act} {vs vs' : Nat → Value} {L : List Nat} (h : ∀ j ∈ L, vs j = vs' j) : acts ops a vs L = acts ops a vs' L := by
  unfold acts
  induction L generalizing a with
  | nil => rfl
  | cons x r ih => simp only [List.foldl_cons, h x (by simp)]; exact ih (fun j hj => h j (List.mem_cons_of_mem _ hj))
theorem put_size (a : Act) (d : Option Tmp) (v : Value) : (a.put d v).tmps.size = a.tmps.size := by cases d <;> simp [Act.put]
theorem acts_size (ops : Array Oper) (a : Act) (vs : Nat → Value) (L : List Nat) : (acts ops a vs L).tmps.size = a.tmps.size := by
  unfold acts
  induction L generalizing a with
  | nil => rfl
  | cons x r ih => rw [List.foldl_cons, ih, put_size]

/-- All slots are written once. -/
def DstApart (ops : Array Oper) : Prop := ∀ i j d, dstAt ops i = some d → dstAt ops j = some d → i = j

theorem put_eval_same (a : Act) (t : Tmp) (v : Value) : (a.put (some t) v).eval (.tmp t) = if t < a.tmps.size then v else undef := by
  by_cases h : t < a.tmps.size
  · rw [if_pos h]; simp [Act.put, Act.eval, h]
  · rw [if_neg h]
    simp only [Act.put, Act.eval]
    rw [Array.setIfInBounds_eq_of_size_le (Nat.le_of_not_lt h)]
    simp
    rw [Array.getElem?_eq_none (Nat.le_of_not_lt h)]; rfl
theorem acts_eval_in {ops : Array Oper} (hd : DstApart ops) {a : Act} {vs : Nat → Value} {L : List Nat} {t : Tmp} {j : Nat} (hj : j ∈ L) (ht : dstAt ops j = some t) : (acts ops a vs L).eval (.tmp t) = if t < a.tmps.size then vs j else undef := by
  induction L generalizing a with
  | nil => simp at hj
  | cons x r ih =>
    simp only [acts, List.foldl_cons]
    by_cases hjr : j ∈ r
    · have := ih (a := a.put (dstAt ops x) (vs x)) hjr
      rw [put_size] at this
      exact this
    · obtain rfl : j = x := by rcases List.mem_cons.1 hj with h | h; exact h; exact absurd h hjr
      have : ∀ (b : Act), (acts ops b vs r).eval (.tmp t) = b.eval (.tmp t) := by
        clear ih hj
        induction r with
        | nil => intro b; rfl
        | cons y s ih =>
          intro b
          simp only [acts, List.foldl_cons]
          have h1 := ih (fun h => hjr (List.mem_cons_of_mem _ h)) (b.put (dstAt ops y) (vs y))
          simp only [acts] at h1
          rw [h1]
          exact Act.eval_put (fun d hd' e => by
            injection e with e
            subst e
            exact hjr (by rw [hd _ _ _ ht hd']; simp))
      have h2 := this (a.put (dstAt ops j) (vs j))
      simp only [acts] at h2
      rw [h2, ht, put_eval_same]
theorem acts_eval_out {ops : Array Oper} {a : Act} {vs : Nat → Value} {L : List Nat} {t : Tmp} (ht : ∀ j ∈ L, dstAt ops j ≠ some t) : (acts ops a vs L).eval (.tmp t) = a.eval (.tmp t) := by
  induction L generalizing a with
  | nil => rfl
  | cons x r ih =>
    simp only [acts, List.foldl_cons]
    have := ih (a := a.put (dstAt ops x) (vs x)) (fun j hj => ht j (List.mem_cons_of_mem _ hj))
    simp only [acts] at this
    rw [this]
    exact Act.eval_put (fun d hd' e => by injection e with e; subst e; exact ht x (by simp) hd')
theorem acts_perm {ops : Array Oper} (hd : DstApart ops) {a : Act} {vs : Nat → Value} {L L' : List Nat} (h : L.Perm L') : acts ops a vs L = acts ops a vs L' := by
  refine List.Perm.foldl_eq' h (fun x _ y _ z => ?_) a
  by_cases hxy : x = y
  · subst hxy; rfl
  · exact Act.put_comm _ _ _ (fun d hx hy => hxy (hd _ _ _ hx hy))

/-- An edge by which a value goes. -/
def isData (e : Edge) : Bool := match e.ground with | .data => true | _ => false
/-- What is asked of the operations below m: no guard, no select; they look at slots of operations alone that come before them; the m-th (if there is one) comes last. -/
def okGrow (ops : Array Oper) (m : Nat) : Bool :=
  Region.noSelect ops && decide (m ≤ ops.size) && decide (ops.size ≤ m + 1) &&
  ((List.range ops.size).all fun i => (List.range ops.size).all fun j => i == j || dstAt ops i == none || dstAt ops i != dstAt ops j) &&
  ((List.range ops.size).all fun i => match ops[i]? with
    | none => false
    | some o => (o.guard == none || i == m) && (o.after.all fun e => (!Region.binds .any e || decide (e.on < i)) && (!isData e || Region.binds .any e)) &&
      ((List.range m).all fun j => match dstAt ops j with
        | none => true
        | some t => !(o.looksAt ops).contains t || (i == m) || o.after.any (fun e => Region.binds .any e && e.on == j)) &&
      (i != m || (List.range m).all fun j => o.after.any (fun e => Region.binds .any e && e.on == j)))

theorem okGrow_spec {ops : Array Oper} {m : Nat} (h : okGrow ops m = true) : Region.noSelect ops = true ∧ m ≤ ops.size ∧ ops.size ≤ m + 1 ∧ DstApart ops ∧
    (∀ i o, ops[i]? = some o → (i < m → o.guard = none) ∧ (∀ e ∈ o.after, (Region.binds .any e = true → e.on < i) ∧ (isData e = true → Region.binds .any e = true)) ∧ (i < m → ∀ j t, j < m → dstAt ops j = some t → t ∈ o.looksAt ops → ∃ e ∈ o.after, Region.binds .any e = true ∧ e.on = j) ∧
      (i = m → ∀ j, j < m → ∃ e ∈ o.after, Region.binds .any e = true ∧ e.on = j)) := by
  simp only [okGrow, Bool.and_eq_true, decide_eq_true_eq] at h
  obtain ⟨⟨⟨⟨h1, h2⟩, h3⟩, h4⟩, h5⟩ := h
  refine ⟨h1, h2, h3, ?_, ?_⟩
  · intro i j d hi hj
    have li : i < ops.size := by
      unfold dstAt at hi
      rcases Nat.lt_or_ge i ops.size with h | h
      · exact h
      · rw [Array.getElem?_eq_none h] at hi; simp at hi
    have lj : j < ops.size := by
      unfold dstAt at hj
      rcases Nat.lt_or_ge j ops.size with h | h
      · exact h
      · rw [Array.getElem?_eq_none h] at hj; simp at hj
    have := List.all_eq_true.1 (List.all_eq_true.1 h4 i (by simpa using li)) j (by simpa using lj)
    simpa [hi, hj] using this
  · intro i o ho
    have li : i < ops.size := (Array.getElem?_eq_some_iff.1 ho).1
    have h6 := List.all_eq_true.1 h5 i (by simpa using li)
    simp only [ho, Bool.and_eq_true] at h6
    obtain ⟨⟨⟨g1, g2⟩, g3⟩, g4⟩ := h6
    refine ⟨fun hm => ?_, fun e he => ?_, fun hm j t hjm hj ht => ?_, fun hm j hj => ?_⟩
    · rcases Bool.or_eq_true_iff.1 g1 with g | g
      · simpa using g
      · have : i = m := by simpa using g
        omega
    · have := Array.all_eq_true_iff_forall_mem.1 g2 e he
      simp only [Bool.and_eq_true, Bool.or_eq_true, Bool.not_eq_true', decide_eq_true_eq] at this
      refine ⟨fun hb => ?_, fun hb => ?_⟩
      · rcases this.1 with h | h
        · rw [hb] at h; cases h
        · exact h
      · rcases this.2 with h | h
        · rw [hb] at h; cases h
        · exact h
    · have := List.all_eq_true.1 g3 j (by simpa using hjm)
      rw [hj] at this
      simp only [Bool.or_eq_true, Bool.not_eq_true'] at this
      rcases this with (h | h) | h
      · rw [List.contains_iff_mem.2 ht] at h; cases h
      · have : i = m := by simpa using h
        omega
      · obtain ⟨e, he, hb⟩ := Array.any_eq_true'.1 h
        simp only [Bool.and_eq_true, beq_iff_eq] at hb
        exact ⟨e, he, hb.1, hb.2⟩
    · subst hm
      rcases Bool.or_eq_true_iff.1 g4 with g | g
      · simp at g
      · have := List.all_eq_true.1 g j (by simpa using hj)
        obtain ⟨e, he, hb⟩ := Array.any_eq_true'.1 this
        simp only [Bool.and_eq_true, beq_iff_eq] at hb
        exact ⟨e, he, hb.1, hb.2⟩

/-- A step of an operation whose operands have the values ρ: a value and a world that are as said. -/
def GivesOp (P : Program) (o : Oper) (ρ : Operand → Value) (W : World) (T : Value → World → Prop) : Prop := match (execOp ρ o).run P W with
  | .ok (.value v) W' => T v W'
  | .ok .skip W' => T undef W'
  | .ok (.enter f args) W' => Calls P f args W' (fun e W'' => ∃ v, e = .returned v ∧ T v W'')
  | _ => False
theorem GivesOp.wp {P : Program} {o : Oper} {ρ : Operand → Value} {a' : Act} {W : World} {T : Value → World → Prop} {Q : Exit → Act → World → Prop} (h : GivesOp P o ρ W T) (he : execOp a'.eval o = execOp ρ o) :
    o.wp P a' W (fun a'' W' => ∃ v, a'' = a'.put o.dst v ∧ T v W') Q := by
  unfold GivesOp at h
  unfold Oper.wp
  rw [he]
  generalize (execOp ρ o).run P W = r at *
  cases r with
  | ok n w' =>
    cases n <;> simp only at h <;> simp only [Oper.upon]
    case value v => exact ⟨v, rfl, h⟩
    case skip => exact ⟨undef, rfl, h⟩
    case enter f args =>
      refine Calls.mono h (fun e w'' he => ?_)
      obtain ⟨v, rfl, ht⟩ := he
      exact ⟨v, rfl, ht⟩
  | halt x w' => simp only at h
/-- What the operations of a region see: what those before them left, else the frame. -/
structure Sees (ops : Array Oper) (a : Act) (m : Nat) (vs : Nat → Value) (ρ : Operand → Value) : Prop where
  ins : ∀ j t, j < m → dstAt ops j = some t → t < a.tmps.size → ρ (.tmp t) = vs j
  out : ∀ t, ((List.range m).all fun j => dstAt ops j != some t) = true → ρ (.tmp t) = a.eval (.tmp t)
  const : ∀ c, ρ (.const c) = c
  glob : ∀ g, ρ (.global g) = .pointer (some ⟨g, 0, none⟩)
  func : ∀ f, ρ (.func f) = .func (.func f) #[] #[]
theorem sees_acts {ops : Array Oper} (hd : DstApart ops) (a : Act) (m : Nat) (vs : Nat → Value) : Sees ops a m vs (acts ops a vs (List.range m)).eval where
  ins := fun j t hj ht hs => by rw [acts_eval_in hd (by simpa using hj) ht, if_pos hs]
  out := fun t ht => acts_eval_out (fun j hj => by have := List.all_eq_true.1 ht j hj; simpa using this)
  const := fun _ => rfl
  glob := fun _ => rfl
  func := fun _ => rfl

def upd (vs : Nat → Value) (i : Nat) (v : Value) : Nat → Value := fun j => if j = i then v else vs j

/-- Operation k comes before operation i. -/
def comesAfter (ops : Array Oper) : Nat → Nat → Nat → Bool
  | 0, _, _ => false
  | f + 1, i, k => match ops[i]? with
    | none => false
    | some o => o.after.any fun e => Region.binds .any e && (e.on == k || comesAfter ops f e.on k)
theorem comesAfter_mem {ops : Array Oper} {L : List Nat} (hcl : ∀ i ∈ L, ∀ o, ops[i]? = some o → ∀ e ∈ o.after, Region.binds .any e = true → e.on ∈ L) : ∀ (f i k : Nat), i ∈ L → comesAfter ops f i k = true → k ∈ L := by
  intro f
  induction f with
  | zero => intro i k _ h; simp [comesAfter] at h
  | succ f ih =>
    intro i k hi h
    rw [comesAfter] at h
    cases ho : ops[i]? with
    | none => rw [ho] at h; cases h
    | some o =>
      rw [ho] at h
      obtain ⟨e, he, hb⟩ := Array.any_eq_true'.1 h
      simp only [Bool.and_eq_true, Bool.or_eq_true, beq_iff_eq] at hb
      have hm := hcl i hi o ho e he hb.1
      rcases hb.2 with h1 | h1
      · rw [← h1]; exact hm
      · exact ih e.on k hm h1
/-- What comes before an operation whose direct forerunners are done is done. -/
theorem comesAfter_ready {ops : Array Oper} {L : List Nat} (hcl : ∀ i ∈ L, ∀ o, ops[i]? = some o → ∀ e ∈ o.after, Region.binds .any e = true → e.on ∈ L) {i : Nat} {o : Oper} (ho : ops[i]? = some o) (hd : ∀ e ∈ o.after, Region.binds .any e = true → e.on ∈ L) : ∀ (f k : Nat), comesAfter ops f i k = true → k ∈ L := by
  intro f k h
  cases f with
  | zero => simp [comesAfter] at h
  | succ f =>
    rw [comesAfter, ho] at h
    obtain ⟨e, he, hb⟩ := Array.any_eq_true'.1 h
    simp only [Bool.and_eq_true, Bool.or_eq_true, beq_iff_eq] at hb
    have hm := hd e he hb.1
    rcases hb.2 with h1 | h1
    · rw [← h1]; exact hm
    · exact comesAfter_mem hcl f e.on k hm h1
/-- Operation c looks at what operation i left. -/
def looksTo (ops : Array Oper) (c i : Nat) : Bool := match ops[c]? with | none => false | some o => o.after.any fun e => isData e && e.on == i
/-- What operation i left must outlast operation k. -/
def outlasts (ops : Array Oper) (m : Nat) (Kp : List Nat) (i k : Nat) : Bool := !comesAfter ops m i k && (Kp.contains i || (List.range m).any fun c => c != k && !comesAfter ops m k c && looksTo ops c i)

section
variable {P : Program} {ops : Array Oper} {Q : Exit → Act → World → Prop} {a : Act} {m : Nat} (Kp : List Nat) (G : List Nat → World → Prop) (E : Nat → World → World → Prop) (R : Nat → Value → World → Prop)

theorem wpAny_grow (hok : okGrow ops m = true) (hRE : ∀ i k v W W', i < m → k < m → i ≠ k → outlasts ops m Kp i k = true → R i v W → E k W W' → R i v W')
    (hstep : ∀ i o, i < m → ops[i]? = some o → ∀ L vs W, i ∉ L → (∀ j ∈ L, comesAfter ops m j i = false) → G L W → (∀ e ∈ o.after, isData e = true → R e.on (vs e.on) W) → ∀ ρ, Sees ops a m vs ρ → GivesOp P o ρ W (fun v W' => E i W W' ∧ G (L ++ [i]) W' ∧ R i v W'))
    (hend : ∀ L vs W, (∀ j, j < m → j ∈ L) → G L W → (∀ j ∈ Kp, j < m → R j (vs j) W) → if m = ops.size then Q .normal (acts ops a vs (List.range m)) W else wpOp P ops Q m (fun a w => Q .normal a w) (acts ops a vs (List.range m)) W) :
    ∀ (fuel : Nat) (L : List Nat) (vs : Nat → Value) (W : World) (listed : Array Bool), listed.size = ops.size → (∀ j, j < ops.size → (listed.getD j true = true ↔ j ∈ L)) → L.Nodup → (∀ j ∈ L, j < m) → ((List.range ops.size).filter (fun j => !L.contains j)).length ≤ fuel → G L W → (∀ i ∈ L, ∀ o, ops[i]? = some o → ∀ e ∈ o.after, Region.binds .any e = true → e.on ∈ L) → (∀ j ∈ L, (j ∈ Kp ∨ ∃ c, c < m ∧ c ∉ L ∧ looksTo ops c j = true) → R j (vs j) W) →
      wpAny P .any ops Q fuel listed (acts ops a vs L) W := by
  obtain ⟨hns, hm1, hm2, hda, hspec⟩ := okGrow_spec hok
  have hperm : ∀ L : List Nat, L.Nodup → (∀ j ∈ L, j < m) → (∀ j, j < m → j ∈ L) → L.Perm (List.range m) := fun L h1 h2 h3 =>
    (List.perm_ext_iff_of_nodup h1 List.nodup_range).2 (fun j => ⟨fun h => by simpa using h2 j h, fun h => h3 j (by simpa using h)⟩)
  -- all below m are listed if none of them is ready
  have hall : ∀ (L : List Nat) (listed : Array Bool), listed.size = ops.size → (∀ j, j < ops.size → (listed.getD j true = true ↔ j ∈ L)) → (∀ j ∈ Region.ready .any ops listed, ¬ j < m) → ∀ j, j < m → j ∈ L := by
    intro L listed hsz hL hr j
    induction j using Nat.strongRecOn with
    | _ j ih =>
      intro hj
      by_cases hjL : j ∈ L
      · exact hjL
      · exfalso
        refine hr j ?_ hj
        have hjs : j < ops.size := by omega
        rw [mem_ready]
        obtain ⟨o, ho⟩ : ∃ o, ops[j]? = some o := ⟨ops[j], Array.getElem?_eq_getElem hjs⟩
        refine ⟨?_, o, ho, fun e he hb => ?_⟩
        · cases hx : listed.getD j true
          · rfl
          · exact absurd ((hL j hjs).1 hx) hjL
        · have hlt := ((hspec j o ho).2.1 e he).1 hb
          have hm := ih e.on hlt (by omega)
          have := (hL e.on (by omega)).2 hm
          have hin : e.on < listed.size := by rw [hsz]; omega
          simpa [Array.getD, hin] using this
  -- what is asked when all below m are listed
  have hfin : ∀ (L : List Nat) (vs : Nat → Value) (W : World), L.Nodup → (∀ j ∈ L, j < m) → (∀ j, j < m → j ∈ L) → G L W → (∀ j ∈ L, (j ∈ Kp ∨ ∃ c, c < m ∧ c ∉ L ∧ looksTo ops c j = true) → R j (vs j) W) →
      if m = ops.size then Q .normal (acts ops a vs L) W else wpOp P ops Q m (fun a w => Q .normal a w) (acts ops a vs L) W := by
    intro L vs W hnd hLm hcov hE hR
    rw [acts_perm hda (hperm L hnd hLm hcov)]
    exact hend L vs W hcov hE (fun j hk hj => hR j (hcov j hj) (Or.inl hk))
  intro fuel
  induction fuel with
  | zero =>
    intro L vs W listed hsz hL hnd hLm hlen hE hcl hR
    have hcov : ∀ j, j < ops.size → j ∈ L := fun j hj => by
      have h0 := List.eq_nil_of_length_eq_zero (Nat.le_zero.1 hlen)
      have : j ∉ (List.range ops.size).filter (fun j => !L.contains j) := by rw [h0]; simp
      simpa [hj] using this
    have hmn : m = ops.size := by
      rcases Nat.lt_or_ge m ops.size with h | h
      · have := hLm m (hcov m h); omega
      · omega
    have hf := hfin L vs W hnd hLm (fun j hj => hcov j (by omega)) hE hR
    rw [if_pos hmn] at hf
    refine ⟨?_, hf⟩
    rw [List.eq_nil_iff_forall_not_mem]
    intro j hj
    obtain ⟨h0, o, ho, _⟩ := mem_ready.1 hj
    have := (hL j (Array.getElem?_eq_some_iff.1 ho).1).2 (hcov j (Array.getElem?_eq_some_iff.1 ho).1)
    rw [this] at h0; cases h0
  | succ fuel ih =>
    intro L vs W listed hsz hL hnd hLm hlen hE hcl hR
    refine ⟨fun hr => ?_, fun i hi => ?_⟩
    · have hcov := hall L listed hsz hL (by rw [hr]; simp)
      have hf := hfin L vs W hnd hLm hcov hE hR
      by_cases hmn : m = ops.size
      · rw [if_pos hmn] at hf; exact hf
      · exfalso
        have hms : m < ops.size := by omega
        have : m ∈ Region.ready .any ops listed := by
          rw [mem_ready]
          obtain ⟨o, ho⟩ : ∃ o, ops[m]? = some o := ⟨ops[m], Array.getElem?_eq_getElem hms⟩
          refine ⟨?_, o, ho, fun e he hb => ?_⟩
          · cases hx : listed.getD m true
            · rfl
            · have := hLm m ((hL m hms).1 hx); omega
          · have hlt := ((hspec m o ho).2.1 e he).1 hb
            have := (hL e.on (by omega)).2 (hcov e.on hlt)
            have hin : e.on < listed.size := by rw [hsz]; omega
            simpa [Array.getD, hin] using this
        rw [hr] at this
        simp at this
    · obtain ⟨h0, o, ho, hdep⟩ := mem_ready.1 hi
      have his : i < ops.size := (Array.getElem?_eq_some_iff.1 ho).1
      have hiL : i ∉ L := fun h => by rw [(hL i his).2 h] at h0; cases h0
      have hdepL : ∀ e ∈ o.after, Region.binds .any e = true → e.on ∈ L := fun e he hb => by
        have h1 := hdep e he hb
        have hlt := ((hspec i o ho).2.1 e he).1 hb
        have hin : e.on < listed.size := by rw [hsz]; omega
        exact (hL e.on (by omega)).1 (by simpa [Array.getD, hin] using h1)
      have hlist : ∀ j, j < ops.size → ((listed.setIfInBounds i true).getD j true = true ↔ j ∈ L ++ [i]) := fun j hj => by
        by_cases hij : i = j
        · subst hij; simp [hsz, his]
        · rw [getD_set_ne true hij, hL j hj]; simp; intro e; exact absurd e.symm hij
      by_cases him : i < m
      · -- one of the operations that make memory
        have hnc : ∀ j ∈ L, comesAfter ops m j i = false := fun j hj => by
          cases hx : comesAfter ops m j i
          · rfl
          · exact absurd (comesAfter_mem hcl m j i hj hx) hiL
        have hg := hstep i o him ho L vs W hiL hnc hE (fun e he hb => hR _ (hdepL e he (((hspec i o ho).2.1 e he).2 hb)) (Or.inr ⟨i, him, hiL, by unfold looksTo; rw [ho]; exact Array.any_eq_true'.2 ⟨e, he, by simp [hb]⟩⟩)) _ (sees_acts hda a m vs)
        have hex : execOp (acts ops a vs L).eval o = execOp (acts ops a vs (List.range m)).eval o := by
          refine execOp_congr o (Region.noSelect_spec hns i o · · ho) (fun x hx => ?_)
          cases x with
          | tmp t =>
            have hlook : t ∈ o.looksAt ops := List.mem_append_left _ (List.mem_filterMap.2 ⟨.tmp t, by simpa using hx, rfl⟩)
            by_cases hex : ∃ j, j < m ∧ dstAt ops j = some t
            · obtain ⟨j, hjm, hj⟩ := hex
              obtain ⟨e, he, hb, rfl⟩ := (hspec i o ho).2.2.1 him j t hjm hj hlook
              have hjL := hdepL e he hb
              rw [acts_eval_in hda hjL hj, acts_eval_in hda (by simpa using hLm _ hjL) hj]
            · have h1 : ∀ j, j < m → dstAt ops j ≠ some t := fun j hjm hj => hex ⟨j, hjm, hj⟩
              rw [acts_eval_out (fun j hjL => h1 j (hLm j hjL)), acts_eval_out (fun j hjr => h1 j (by simpa using hjr))]
          | const v => rfl
          | global g => rfl
          | func f => rfl
        unfold wpOp
        simp only [ho]
        rw [if_pos (by unfold Region.wanted; rw [(hspec i o ho).1 him])]
        left
        refine Oper.wp_mono ?_ (hg.wp hex)
        rintro a' W' ⟨v, rfl, hEW, hE', hRv⟩
        have e1 : (acts ops a vs L).put o.dst v = acts ops a (upd vs i v) (L ++ [i]) := by
          rw [acts_snoc, acts_congr (vs := upd vs i v) (vs' := vs) (fun j hj => by unfold upd; rw [if_neg (fun e => hiL (by rw [← e]; exact hj))])]
          simp [upd, dstAt, ho]
        rw [e1]
        refine ih (L ++ [i]) (upd vs i v) W' _ (by simpa using hsz) hlist ?_ ?_ ?_ hE' ?_ ?_
        · rw [List.nodup_append]
          exact ⟨hnd, by simp, fun x hx y hy e => by simp at hy; subst hy; subst e; exact hiL hx⟩
        · intro j hj
          rcases List.mem_append.1 hj with h | h
          · exact hLm j h
          · simp at h; omega
        · have h1 : (List.range ops.size).filter (fun j => !(L ++ [i]).contains j) = ((List.range ops.size).filter (fun j => !L.contains j)).filter (fun j => j != i) := by
            rw [List.filter_filter]
            congr 1
            funext j
            simp only [List.contains_append, Bool.not_or]
            rw [Bool.and_comm]
            congr 1
            rw [Bool.eq_iff_iff]; simp [bne]
          have h2 : (((List.range ops.size).filter (fun j => !L.contains j)).filter (fun j => j != i)).length < ((List.range ops.size).filter (fun j => !L.contains j)).length := by
            rw [List.length_filter_lt_length_iff_exists]
            exact ⟨i, by simp [his, hiL], by simp⟩
          rw [h1]; omega
        · intro j hj o' ho' e he hb
          rcases List.mem_append.1 hj with h | h
          · exact List.mem_append_left _ (hcl j h o' ho' e he hb)
          · simp at h; subst h
            rw [ho] at ho'
            cases ho'
            exact List.mem_append_left _ (hdepL e he hb)
        · intro j hj hlive
          rcases List.mem_append.1 hj with h | h
          · have : upd vs i v j = vs j := by unfold upd; rw [if_neg (fun e => hiL (by rw [← e]; exact h))]
            rw [this]
            have hlive' : j ∈ Kp ∨ ∃ c, c < m ∧ c ∉ L ∧ looksTo ops c j = true := hlive.imp id (fun ⟨c, h1, h2, h3⟩ => ⟨c, h1, fun hc => h2 (List.mem_append_left _ hc), h3⟩)
            refine hRE j i _ W W' (hLm j h) him (fun e => hiL (e ▸ h)) ?_ (hR j h hlive') hEW
            unfold outlasts
            rw [Bool.and_eq_true, Bool.not_eq_true', Bool.or_eq_true]
            refine ⟨?_, ?_⟩
            · cases hx : comesAfter ops m j i
              · rfl
              · exact absurd (comesAfter_mem hcl m j i h hx) hiL
            · rcases hlive with hk | ⟨c, h1, h2, h3⟩
              · exact Or.inl (List.contains_iff_mem.2 hk)
              · refine Or.inr (List.any_eq_true.2 ⟨c, by simpa using h1, ?_⟩)
                rw [h3, Bool.and_true, Bool.and_eq_true, bne_iff_ne, Bool.not_eq_true']
                refine ⟨fun e => by subst e; exact h2 (by simp), ?_⟩
                cases hx : comesAfter ops m i c
                · rfl
                · exact absurd (List.mem_append_left _ (comesAfter_ready hcl ho hdepL m c hx)) h2
          · simp at h; subst h; simpa [upd] using hRv
      · -- the last one
        obtain rfl : i = m := by omega
        have hcov : ∀ j, j < i → j ∈ L := fun j hj => by
          obtain ⟨e, he, hb, rfl⟩ := (hspec i o ho).2.2.2 rfl j hj
          exact hdepL e he hb
        have hf := hfin L vs W hnd hLm hcov hE hR
        rw [if_neg (by omega)] at hf
        refine wpOp_mono (fun a' W' hq => ?_) hf
        refine wpAny_done ?_ hq fuel
        rw [List.eq_nil_iff_forall_not_mem]
        intro j hj
        obtain ⟨h0', o', ho', _⟩ := mem_ready.1 hj
        have hjs := (Array.getElem?_eq_some_iff.1 ho').1
        have : j ∈ L ++ [i] := by
          by_cases hji : j < i
          · exact List.mem_append_left _ (hcov j hji)
          · have : j = i := by omega
            simp [this]
        rw [(hlist j hjs).2 this] at h0'; cases h0'

/-- A region whose operations (but for the last one) only make memory, in whatever order; what holds of the world may depend on what has been done. -/
theorem wp_region_growL {id : Nat} {w : World} (hm : P.follows .mixedOrders = true) (hok : okGrow ops m = true) (hG : G [] w.drew) (hRE : ∀ i k v W W', i < m → k < m → i ≠ k → outlasts ops m Kp i k = true → R i v W → E k W W' → R i v W')
    (hstep : ∀ i o, i < m → ops[i]? = some o → ∀ L vs W, i ∉ L → (∀ j ∈ L, comesAfter ops m j i = false) → G L W → (∀ e ∈ o.after, isData e = true → R e.on (vs e.on) W) → ∀ ρ, Sees ops a m vs ρ → GivesOp P o ρ W (fun v W' => E i W W' ∧ G (L ++ [i]) W' ∧ R i v W'))
    (hend : ∀ L vs W, (∀ j, j < m → j ∈ L) → G L W → (∀ j ∈ Kp, j < m → R j (vs j) W) → if m = ops.size then Q .normal (acts ops a vs (List.range m)) W else wpOp P ops Q m (fun a w => Q .normal a w) (acts ops a vs (List.range m)) W) :
    (Code.region id ops true).wp P Q a w := by
  refine wp_region_any hm ?_
  refine wpAny_grow Kp G E R hok hRE hstep hend ops.size [] (fun _ => undef) _ _ (by simp) (fun j hj => ?_) List.nodup_nil (fun j hj => by simp at hj) ?_ hG (fun j hj => by simp at hj) (fun j hj => by simp at hj)
  · simp [hj]
  · exact Nat.le_trans (List.length_filter_le _ _) (by simp)
end
section
variable {P : Program} {ops : Array Oper} {Q : Exit → Act → World → Prop} {a : Act} {m : Nat} (Kp : List Nat) (G : World → Prop) (E : Nat → World → World → Prop) (R : Nat → Value → World → Prop)
/-- The same where what holds of the world does not depend on what has been done. -/
theorem wp_region_grow {id : Nat} {w : World} (hm : P.follows .mixedOrders = true) (hok : okGrow ops m = true) (hG : G w.drew) (hRE : ∀ i k v W W', i < m → k < m → i ≠ k → outlasts ops m Kp i k = true → R i v W → E k W W' → R i v W')
    (hstep : ∀ i o, i < m → ops[i]? = some o → ∀ vs W, G W → (∀ e ∈ o.after, isData e = true → R e.on (vs e.on) W) → ∀ ρ, Sees ops a m vs ρ → GivesOp P o ρ W (fun v W' => E i W W' ∧ G W' ∧ R i v W'))
    (hend : ∀ vs W, G W → (∀ j ∈ Kp, j < m → R j (vs j) W) → if m = ops.size then Q .normal (acts ops a vs (List.range m)) W else wpOp P ops Q m (fun a w => Q .normal a w) (acts ops a vs (List.range m)) W) :
    (Code.region id ops true).wp P Q a w :=
  wp_region_growL Kp (fun _ W => G W) E R hm hok hG hRE (fun i o hi ho _ vs W _ _ => hstep i o hi ho vs W) (fun _ vs W _ => hend vs W)
end
end Go.Proofs.YtaepiiediblleaaDoor
