/-
  Texts of the claim, joined: Names4, Lay, Iter, Names5, Ord3, CExp1, Defs, CNode.
-/
import Derived.Test.YtpkljcgihobaiaaGreatDoorSo13
import Derived.Shelf.SlGeneric
import Derived.Shelf.SlIter.Nil
import Derived.Shelf.SortM.Plain
import Derived.Shelf.SortM.SortNone
import Derived.Ground.GgzProg
import Derived.Ground.SlgmProg
namespace Go.Proofs.YtpkljcgihobaiaaGreatDoor
set_option maxRecDepth 100000
set_option maxHeartbeats 32000000
open Go.RowKit Go.Maps
def gath (m l : ZB) : ZB := m.foldl (fun l s => putL s l) l
theorem gath_append (m k l : ZB) : gath (m ++ k) l = gath k (gath m l) := by simp [gath]
theorem gath_nil (l : ZB) : gath [] l = l := rfl
theorem gath_one (s : BA) (l : ZB) : gath [s] l = putL s l := rfl
theorem gath_len (m l : ZB) : (gath m l).length <= m.length + l.length := fold_len m l
mutual
theorem namesE_len : (e : Ex) -> (namesE e).length <= e.size
 | .mk op name words lo hi args => by
  have := namesL_len args
  rw [namesE, Ex.size, List.length_append]
  split <;> simp <;> omega
theorem namesL_len : (l : List Ex) -> (namesL l).length <= sizes l
 | [] => by simp [namesL, sizes]
 | e :: r => by
  have := namesE_len e
  have := namesL_len r
  rw [namesL, sizes, List.length_append]; omega
end
theorem gather_calls (m : Nat) : m <= 1000000 -> ∀ (e : Ex) (v : Value) (w : World) (l : ZB) (a : OA) (n c : Nat), e.size <= m -> IsEx w e v -> IsStrs w l a n c -> n + e.size <= 1000000 ->
  Calls Tryz.prog 107 #[.slice a n c, v] w (PutQ (gath (namesE e) l) w) := by
 induction m with
 | zero => intro _ e v w l a n c h; have := size_pos e; omega
 | succ m ih =>
  intro hMM e v w l a n c hm he hs hn
  obtain ⟨aw, nw, cw, aa, na, ca, rfl, hw, hna, hca, ha, hx⟩ := he.parts
  have hS : e.size = 1 + sizes e.args := e.size_eq
  have hla := length_le_sizes e.args
  have HX := hI ((Ext.refl w).alloc (.cells #[.int .i64 e.op, .string e.name, .slice aw nw cw, .int .i64 e.lo, .int .i64 e.hi, .slice aa na ca] 26))
  have HBX := hI (alloc_new w (.cells #[.int .i64 e.op, .string e.name, .slice aw nw cw, .int .i64 e.lo, .int .i64 e.hi, .slice aa na ca] 26))
  have HXS := hI (ExsD.ext HX.out e.args aa hx)
  have HS := hI (hs.ext HX.out)
  have HSN := hI hs.1
  have HNA := hI hna
  have HNM := hI (namesE_eq e)
  have IH := hI (ih (by omega))
  have hna2 : na <= 1000000 := by omega
  have hsz : sizes e.args <= m := by omega
  have hn2 : n + 1 + sizes e.args <= 1000000 := by omega
  clear hw hna hca ha hx he hs hS hla ih hm hn
  generalize namesE e = NE at *
  unfold exV
  go_enter Tryz.func107, Tryz.ntmps107
  go_upto_region 1 with fail
  generalize w.alloc (.cells #[.int .i64 e.op, .string e.name, .slice aw nw cw, .int .i64 e.lo, .int .i64 e.hi, .slice aa na ca] 26) = wb at *
  obtain ⟨b0, b1, b2, b3, b4, b5, bf⟩ := blk6 HBX.out
  have hlx := blk_lt HBX.out
  by_cases h3 : e.op = 3
  case' pos =>
   have t3 : (e.op == 3) = true := by simp [h3]
   have HNE := hI (show gath NE l = gath (namesL e.args) (putL e.name l) by rw [HNM.out, if_pos h3, gath_append, gath_one])
   have hpl := putL_len e.name l
   clear h3
   go_wp2_with fail
   refine (put_calls e.name l a n c _ HS.out (by omega)).mono ?_
   rintro r w1 ⟨a1, c1, rfl, hs1, hx1⟩
   have HS1 := hI hs1
   have HX1 := hI hx1
   have HB1 := hI (hx1.blk HBX.out)
   have hl1 : (putL e.name l).length <= n + 1 := by have := HSN.out; omega
   clear hs1 hx1 b0 b1 b2 b3 b4 b5 bf hlx HS HSN hpl
   generalize putL e.name l = l1 at *
   obtain ⟨n1, hn1⟩ : ∃ n1, n1 = l1.length := ⟨_, rfl⟩
   rw [<- hn1] at HS1 hl1 ⊢
   clear hn1
   go_upto_region 3 with fail
  case' neg =>
   have t3 : (e.op == 3) = false := by simp [h3]
   have HNE := hI (show gath NE l = gath (namesL e.args) l by rw [HNM.out, if_neg h3]; simp)
   have HX1 := hI (Ext.refl wb)
   have HB1 := HBX
   have hl1 : n <= n + 1 := by omega
   have HS1 := HS
   clear h3 HS
   obtain ⟨l1, hl1e⟩ : ∃ l1, l1 = l := ⟨_, rfl⟩
   have HNE2 := hI (show gath NE l = gath (namesL e.args) l1 by rw [hl1e]; exact HNE.out)
   rw [<- hl1e] at HS1 HSN
   clear hl1e HNE
   have HNE := HNE2
   clear HNE2
   go_upto_region 3 with fail
   clear b0 b1 b2 b3 b4 b5 bf hlx
  all_goals
   go_wp2_with fail
   go_loopg [0, 5] na (fun g u i wr => ∃ (j : Nat) (al : OA) (nl cl : Nat), j <= na /\ g = na - j /\ i = .int .i64 j /\ u = .slice al nl cl /\ nl <= n + 1 + (namesL (e.args.take j)).length /\ IsStrs wr (gath (namesL (e.args.take j)) l1) al nl cl /\ Ext wb wr)
   case atStart => exact ⟨0, _, _, _, by omega, rfl, rfl, rfl, by omega, by simpa [namesL, gath_nil] using HS1.out, HX1.out⟩
   case round =>
    obtain ⟨j, al, nl, cl, hj, hgj, rfl, rfl, hnl, hsj, hxj⟩ := hrel
    have HGN := hI hgj
    have HSJ := hI hsj
    have HXJ := hI hxj
    have HNL := hI hnl
    have HBJ := hI (hxj.blk HBX.out)
    clear hsj hxj hgj hnl
    obtain ⟨b0, b1, b2, b3, b4, b5, bf⟩ := blk6 HBJ.out
    have hlx := blk_lt HBJ.out
    by_cases hlt : j < na
    ·have hlt' : j < e.args.length := by have := HNA.out; omega
     have td : decide ((j : Int) < (na : Int)) = true := by simp; omega
     obtain ⟨bb, off, rfl, aw1, nw1, cw1, aa1, na1, ca1, c0, c1, c2, c3, c4, c5, c6⟩ := ExsD.at e.args _ (ExsD.ext HXJ.out _ _ HXS.out) j hlt'
     have HC6 := hI c6
     have HST := hI (sizes_take_succ e.args j hlt')
     have HSL := hI (sizes_take_le e.args (j + 1))
     have HNT := hI (namesL_take e.args j hlt')
     have HNE3 := hI (namesL_len (e.args.take j))
     clear c6
     generalize e.args[j] = a' at *
     go_wp2_with fail
     refine (IH.out a' _ _ _ al nl cl (by have := HST.out; have := HSL.out; omega) HC6.out HSJ.out (by have := HST.out; have := HSL.out; have := HNL.out; have := HNE3.out; omega)).mono ?_
     rintro r w2 ⟨a2, c2', rfl, hs2, hx2⟩
     have HL2 := hI (show (gath (namesE a') (gath (namesL (e.args.take j)) l1)).length <= n + 1 + (namesL (e.args.take (j + 1))).length by
      have h1 := gath_len (namesE a') (gath (namesL (e.args.take j)) l1)
      have h2 := HSJ.out.1
      have h3 := HNL.out
      rw [HNT.out, List.length_append]; omega)
     have HS2 := hI (show IsStrs w2 (gath (namesL (e.args.take (j + 1))) l1) a2 (gath (namesE a') (gath (namesL (e.args.take j)) l1)).length c2' by rw [HNT.out, gath_append]; exact hs2)
     have HX2 := hI (HXJ.out.trans hx2)
     clear hs2 hx2 c0 c1 c2 c3 c4 c5 b0 b1 b2 b3 b4 b5 bf hlx
     generalize (gath (namesE a') (gath (namesL (e.args.take j)) l1)).length = n2 at *
     go_wp2_with fail
     go_roundg (na - (j + 1))
     case measure => have := HGN.out; omega
     case rel => exact ⟨j + 1, a2, n2, c2', by omega, rfl, by go_num, rfl, HL2.out, HS2.out, HX2.out⟩
    have HE2 := hI (show e.args.take j = e.args from List.take_of_length_le (by have := HNA.out; omega))
    have td : decide ((j : Int) < (na : Int)) = false := by simp; omega
    rw [HE2.out, <- HNE.out] at HSJ
    have HLN := hI HSJ.out.1
    go_wp2_with fail
    go_ret
    refine ⟨al, cl, ?_, ?_, HX.out.trans HXJ.out⟩
    ·rw [<- HLN.out]; rfl
    rw [<- HLN.out]; exact HSJ.out
theorem rnames_calls (e : Ex) (v : Value) (w : World) (hs : e.size <= 900000) (he : IsEx w e v) : Calls Tryz.prog 86 #[v] w (PutQ (refNames (namesE e)) w) := by
 obtain ⟨aw, nw, cw, aa, na, ca, rfl, -, -, -, -, -⟩ := he.parts
 have HX := hI ((Ext.refl w).alloc (.cells #[.int .i64 e.op, .string e.name, .slice aw nw cw, .int .i64 e.lo, .int .i64 e.hi, .slice aa na ca] 26))
 have HE := hI (he.ext HX.out)
 clear he
 unfold exV at *
 go_enter Tryz.func86, Tryz.ntmps86
 go_wp2_with fail
 refine (gather_calls 900000 (by omega) e _ _ [] none 0 0 hs HE.out ⟨rfl, Nat.le_refl 0, Or.inl ⟨rfl, rfl⟩, fun i hi => by simp at hi⟩ (by omega)).mono ?_
 rintro r w1 ⟨a1, c1, rfl, hs1, hx1⟩
 have HS1 := hI hs1
 have HX1 := hI (HX.out.trans hx1)
 clear hs1 hx1
 go_wp2_with fail
 go_ret
 exact ⟨a1, c1, rfl, HS1.out, HX1.out⟩
end Go.Proofs.YtpkljcgihobaiaaGreatDoor

/-
 DERIVED: THE SHELF's CONTRACTS AT THIS DUMP, IN PLAIN WORDS (tools/lay-plain.mjs out of 'TrydLay.lean', which tools/lay-shelf.mjs wrote): THE SAME DECLARATIONS UNDER THE SAME NAMES: 'import', 'namespace', 'open', 'def', 'theorem' AND NOTHING ELSE: no command of the shelf's: FOR A HAND-IN. Each laying: the table of numbers ('.._ren') and one theorem, a field a fact of the dump's own or the kernel's comparison; each contract: ONE APPLICATION.
-/
namespace Go.Proofs
set_option maxRecDepth 100000
set_option maxHeartbeats 32000000
open Go.Shelf
def Tryz.keys42_ren : Go.Shelf.Ren := ⟨fun | 7 => 116 | 10 => 131 | n => n, fun | 23 => 136 | 26 => 9 | 3 => 137 | 28 => 157 | 0 => 0 | 27 => 156 | 33 => 116 | 4 => 4 | n => n, fun | n => n⟩
theorem Tryz.keys42 : Go.Proofs.SlLaysZ.n7 Tryz.prog Tryz.keys42_ren := {
 mixed := by kernel_rfl
 f7 := ⟨Tryz.f116.name, by decide, Tryz.func116.trans (congrArg some (by kernel_rfl))⟩
 f10 := ⟨Tryz.f131.name, by decide, Tryz.func131.trans (congrArg some (by kernel_rfl))⟩
 t0 := Tryz.underlying0
 a0 := Tryz.isAgg0
 z0 := Tryz.sizeOf0
 v0 := Tryz.zeroValue0
 t4 := Tryz.underlying4
 a4 := Tryz.isAgg4
 z4 := Tryz.sizeOf4
 v4 := Tryz.zeroValue4
 t23 := Tryz.underlying136
 a23 := Tryz.isAgg136
 z23 := Tryz.sizeOf136
 v23 := Tryz.zeroValue136
 t26 := Tryz.underlying9
 a26 := Tryz.isAgg9
 z26 := Tryz.sizeOf9
 v26 := Tryz.zeroValue9
 t27 := Tryz.underlying156
 a27 := Tryz.isAgg156
 z27 := Tryz.sizeOf156
 v27 := Tryz.zeroValue156
 t28 := Tryz.underlying157
 a28 := Tryz.isAgg157
 z28 := Tryz.sizeOf157
 v28 := Tryz.zeroValue157
 t33 := Tryz.underlying116
 a33 := Tryz.isAgg116
 z33 := Tryz.sizeOf116
 v33 := Tryz.zeroValue116 }
def Tryz.sorted41_ren : Go.Shelf.Ren := ⟨fun | 6 => 115 | 8 => 129 | 9 => 130 | 11 => 137 | 13 => 139 | 12 => 138 | 23 => 151 | 24 => 152 | 14 => 142 | 15 => 143 | 16 => 144 | 17 => 145 | 18 => 146 | 19 => 147 | 20 => 148 | 21 => 149 | 22 => 150 | 25 => 153 | 26 => 154 | 27 => 155 | 28 => 156 | 29 => 157 | 30 => 158 | 31 => 159 | n => n, fun | 26 => 9 | 28 => 157 | 24 => 23 | 0 => 0 | 3 => 3 | 37 => 179 | 48 => 192 | 50 => 194 | 4 => 4 | 40 => 185 | 39 => 184 | 45 => 79 | 5 => 5 | 9 => 9 | 51 => 195 | 55 => 167 | 57 => 200 | 58 => 88 | 33 => 116 | n => n, fun | n => n⟩
theorem Tryz.sorted41 : Go.Proofs.SlLaysZ.n6 Tryz.prog Tryz.sorted41_ren := {
 mixed := by kernel_rfl
 f6 := ⟨Tryz.f115.name, by decide, Tryz.func115.trans (congrArg some (by kernel_rfl))⟩
 f8 := ⟨Tryz.f129.name, by decide, Tryz.func129.trans (congrArg some (by kernel_rfl))⟩
 f11 := ⟨Tryz.f137.name, by decide, Tryz.func137.trans (congrArg some (by kernel_rfl))⟩
 t0 := Tryz.underlying0
 a0 := Tryz.isAgg0
 z0 := Tryz.sizeOf0
 v0 := Tryz.zeroValue0
 t24 := Tryz.underlying23
 a24 := Tryz.isAgg23
 z24 := Tryz.sizeOf23
 v24 := Tryz.zeroValue23
 t26 := Tryz.underlying9
 a26 := Tryz.isAgg9
 z26 := Tryz.sizeOf9
 v26 := Tryz.zeroValue9
 t28 := Tryz.underlying157
 a28 := Tryz.isAgg157
 z28 := Tryz.sizeOf157
 v28 := Tryz.zeroValue157
 i26 := by kernel_rfl }
def Tryz.sort61_ren : Go.Shelf.Ren := ⟨fun | 6 => 130 | 8 => 139 | 9 => 138 | 19 => 151 | 20 => 152 | 21 => 142 | 22 => 143 | 23 => 144 | 24 => 145 | 25 => 146 | 26 => 147 | 27 => 148 | 28 => 149 | 29 => 150 | 36 => 153 | 31 => 154 | 32 => 155 | 37 => 156 | 38 => 157 | 39 => 158 | 41 => 159 | n => n, fun | 27 => 23 | 29 => 9 | 3 => 3 | 32 => 179 | 26 => 23 | 0 => 0 | 44 => 192 | 46 => 194 | 4 => 4 | 36 => 185 | 35 => 184 | 41 => 79 | 5 => 5 | 9 => 9 | 53 => 195 | 57 => 167 | 63 => 200 | 64 => 88 | n => n, fun | n => n⟩
theorem Tryz.sort61 : Go.Proofs.SlLaysM.n6 Tryz.prog Tryz.sort61_ren := {
 mixed := by kernel_rfl
 f6 := ⟨Tryz.f130.name, by decide, Tryz.func130.trans (congrArg some (by kernel_rfl))⟩
 f8 := Tryz.func139.trans (congrArg some (by kernel_rfl))
 f9 := ⟨Tryz.f138.name, by decide, Tryz.func138.trans (congrArg some (by kernel_rfl))⟩
 f19 := Tryz.func151.trans (congrArg some (by kernel_rfl))
 f20 := Tryz.func152.trans (congrArg some (by kernel_rfl))
 f21 := ⟨Tryz.f142.name, by decide, Tryz.func142.trans (congrArg some (by kernel_rfl))⟩
 f22 := ⟨Tryz.f143.name, by decide, Tryz.func143.trans (congrArg some (by kernel_rfl))⟩
 f23 := ⟨Tryz.f144.name, by decide, Tryz.func144.trans (congrArg some (by kernel_rfl))⟩
 f24 := ⟨Tryz.f145.name, by decide, Tryz.func145.trans (congrArg some (by kernel_rfl))⟩
 f25 := ⟨Tryz.f146.name, by decide, Tryz.func146.trans (congrArg some (by kernel_rfl))⟩
 f26 := ⟨Tryz.f147.name, by decide, Tryz.func147.trans (congrArg some (by kernel_rfl))⟩
 f27 := ⟨Tryz.f148.name, by decide, Tryz.func148.trans (congrArg some (by kernel_rfl))⟩
 f28 := ⟨Tryz.f149.name, by decide, Tryz.func149.trans (congrArg some (by kernel_rfl))⟩
 f29 := ⟨Tryz.f150.name, by decide, Tryz.func150.trans (congrArg some (by kernel_rfl))⟩
 f31 := Tryz.func154.trans (congrArg some (by kernel_rfl))
 f32 := Tryz.func155.trans (congrArg some (by kernel_rfl))
 f36 := ⟨Tryz.f153.name, by decide, Tryz.func153.trans (congrArg some (by kernel_rfl))⟩
 f37 := ⟨Tryz.f156.name, by decide, Tryz.func156.trans (congrArg some (by kernel_rfl))⟩
 f38 := ⟨Tryz.f157.name, by decide, Tryz.func157.trans (congrArg some (by kernel_rfl))⟩
 f39 := ⟨Tryz.f158.name, by decide, Tryz.func158.trans (congrArg some (by kernel_rfl))⟩
 f41 := ⟨Tryz.f159.name, by decide, Tryz.func159.trans (congrArg some (by kernel_rfl))⟩
 t0 := Tryz.underlying0
 a0 := Tryz.isAgg0
 z0 := Tryz.sizeOf0
 v0 := Tryz.zeroValue0
 t3 := Tryz.underlying3
 a3 := Tryz.isAgg3
 z3 := Tryz.sizeOf3
 v3 := Tryz.zeroValue3
 t4 := Tryz.underlying4
 a4 := Tryz.isAgg4
 z4 := Tryz.sizeOf4
 v4 := Tryz.zeroValue4
 t5 := Tryz.underlying5
 a5 := Tryz.isAgg5
 z5 := Tryz.sizeOf5
 v5 := Tryz.zeroValue5
 t9 := Tryz.underlying9
 a9 := Tryz.isAgg9
 z9 := Tryz.sizeOf9
 v9 := Tryz.zeroValue9
 t26 := Tryz.underlying23
 a26 := Tryz.isAgg23
 z26 := Tryz.sizeOf23
 v26 := Tryz.zeroValue23
 t27 := Tryz.underlying23
 a27 := Tryz.isAgg23
 z27 := Tryz.sizeOf23
 v27 := Tryz.zeroValue23
 t29 := Tryz.underlying9
 a29 := Tryz.isAgg9
 z29 := Tryz.sizeOf9
 v29 := Tryz.zeroValue9
 t32 := Tryz.underlying179
 a32 := Tryz.isAgg179
 z32 := Tryz.sizeOf179
 v32 := Tryz.zeroValue179
 t35 := Tryz.underlying184
 a35 := Tryz.isAgg184
 z35 := Tryz.sizeOf184
 v35 := Tryz.zeroValue184
 t36 := Tryz.underlying185
 a36 := Tryz.isAgg185
 z36 := Tryz.sizeOf185
 v36 := Tryz.zeroValue185
 t41 := Tryz.underlying79
 a41 := Tryz.isAgg79
 z41 := Tryz.sizeOf79
 v41 := Tryz.zeroValue79
 t44 := Tryz.underlying192
 a44 := Tryz.isAgg192
 z44 := Tryz.sizeOf192
 v44 := Tryz.zeroValue192
 t46 := Tryz.underlying194
 a46 := Tryz.isAgg194
 z46 := Tryz.sizeOf194
 v46 := Tryz.zeroValue194
 t53 := Tryz.underlying195
 a53 := Tryz.isAgg195
 z53 := Tryz.sizeOf195
 v53 := Tryz.zeroValue195
 t57 := Tryz.underlying167
 a57 := Tryz.isAgg167
 z57 := Tryz.sizeOf167
 v57 := Tryz.zeroValue167
 t63 := Tryz.underlying200
 a63 := Tryz.isAgg200
 z63 := Tryz.sizeOf200
 v63 := Tryz.zeroValue200
 t64 := Tryz.underlying88
 a64 := Tryz.isAgg88
 z64 := Tryz.sizeOf88
 v64 := Tryz.zeroValue88 }
end Go.Proofs

/-
 slices.Sorted(maps.Keys(m)) at this program: the shelf's contracts, as lay-iter.mjs lays them.
-/
namespace Go.Proofs
set_option maxRecDepth 100000
set_option maxHeartbeats 32000000
open Go.RowKit Go.Maps Go.Sort Go.Shelf
theorem Tryz.sorts41 (m : Nat) : AnyZ.SortsIn Tryz.prog Tryz.sorted41_ren Fence.wide m :=
 ⟨fun blk off cap ss W hH hblk hsz => callsIn_wide.2 (AnyM.slices_Sort_string Tryz.sort61 blk off cap ss W hH hblk hsz),
 fun p cap W => callsIn_wide.2 (AnyM.slices_Sort_string_none Tryz.sort61 p cap W)⟩
theorem Tryz.maps_Keys_42 (mb : Option Nat) (W : World) : CallsIn Fence.wide 5 Tryz.prog 116 #[.map mb] W fun e w' => e = .returned (.func (.func 131) #[] #[.pointer (some ⟨W.heap.size, 0, none⟩)]) /\ w' = W.alloc (.cells #[.map mb] 136) :=
 AnyZ.keys_in Tryz.keys42 Fence.wide 5 trivial rfl mb W
theorem Tryz.slices_Sorted_keys_41_42 {H : Type} (b nn : Nat) (D0 : DataW H) (R : Value -> Option (DataW H × List MemPlace)) (w : World) (hown : w.ownsMap Tryz.prog 9 R b nn D0) (hmax : Maps.size D0 <= maxLen) (hbytes : Maps.size D0 * 16 <= 140737488355328) :
  CallsIn Fence.wide 5 Tryz.prog 115 #[.func (.func 131) #[] #[.pointer (some ⟨w.heap.size, 0, none⟩)]] (w.alloc (.cells #[.map (some b)] 136)) fun e w' => ∃ (v : Value) (ss : List (List UInt8)), e = .returned v /\ ss.Perm (strKeys D0) /\
   w'.ownsRow (w.alloc (.cells #[.map (some b)] 136)).heap.size 9 1 v ss.length ((ss.mergeSort (fun x y => decide (x <= y))).map encStr) /\ (v = .slice none 0 0 ↔ ss = []) /\ Below (w.alloc (.cells #[.map (some b)] 136)).heap.size (w.alloc (.cells #[.map (some b)] 136)) w' := by
 have hbl := hown.lt
 have hseq : SeqGives Fence.wide 2 Tryz.prog 131 #[.pointer (some ⟨w.heap.size, 0, none⟩)] encStr (fun ss => ss.Perm (strKeys D0)) (Maps.size D0) (w.alloc (.cells #[.map (some b)] 136)) :=
  AnyZ.keys_gives (ρ := Tryz.keys42_ren) { Tryz.keys42 with } Fence.wide _ trivial rfl (by omega) w.heap.size b nn D0 _ (by simp) (by simp) (by
   obtain ⟨es, clock, hb, Ft, hs, hD⟩ := hown
   exact ⟨es, clock, (Below.heap_alloc _ _ b hbl).trans hb, Ft, hs, hD⟩)
 exact AnyZ.sorted_in Tryz.sorted41 Fence.wide 5 trivial trivial trivial trivial rfl (by omega) (Tryz.sorts41 _) (enters_of Tryz.func130 (by kernel_rfl) rfl) 131 #[.pointer (some ⟨w.heap.size, 0, none⟩)] trivial (enters_of Tryz.func131 (by kernel_rfl) rfl) _ _ hmax hbytes _ hseq
end Go.Proofs

namespace Go.Proofs.YtpkljcgihobaiaaGreatDoor
set_option maxRecDepth 100000
set_option maxHeartbeats 32000000
open Go.RowKit Go.Maps Go.Sort Go.Shelf
theorem strs_of_row {w : World} {base : Nat} {l : ZB} {v : Value} {n : Nat} (h : w.ownsRow base 9 1 v n ((l.map (·.data.toList)).map encStr)) (hn : n = l.length) : ∃ a c, v = .slice a l.length c /\ IsStrs w l a l.length c := by
 subst hn
 have e : (l.map (·.data.toList)).map encStr = l.flatMap strCells := by
  clear h
  induction l with
  | nil => rfl
  | cons x r ih => simp only [List.map_cons, ih, List.flatMap_cons, strCells]; rfl
 rw [e] at h
 obtain ⟨a, c, h1, _, h2⟩ := strs_of_owns h [] (by simp)
 exact ⟨a, c, h1, h2⟩
theorem size_owned {w : World} {b n : Nat} {D : DataW Unit} {R : Value -> Option (DataW Unit × List MemPlace)} (h : w.ownsMap Tryz.prog 9 R b n D) : Maps.size D <= n := by
 obtain ⟨es, clock, _, _, hs, rfl⟩ := h
 simp only [Maps.size]
 rw [length_sorted]
 simpa using hs
def PutQF (l : ZB) (w : World) (e : Ending) (w' : World) : Prop := ∃ (a : OA) (c : Nat), e = .returned (.slice a l.length c) /\ IsStrs w' l a l.length c /\ Ext w w' /\ ∀ b off, a = some ⟨b, off, none⟩ -> w.heap.size <= b
theorem synNamesF_calls (e : Ex) (v : Value) (w : World) (hs : e.size <= 900000) (hf : e.fits) (he : IsEx w e v) : Calls Tryz.prog 94 #[v] w (PutQF (refNames (namesE e)) w) := by
 obtain ⟨aw, nw, cw, aa, na, ca, rfl, -, -, -, -, -⟩ := he.parts
 have HX := hI (((Ext.refl w).alloc (.cells #[.int .i64 e.op, .string e.name, .slice aw nw cw, .int .i64 e.lo, .int .i64 e.hi, .slice aa na ca] 26)).alloc (.map #[] 0))
 have HSET := hI (show SetAt ((w.alloc (.cells #[.int .i64 e.op, .string e.name, .slice aw nw cw, .int .i64 e.lo, .int .i64 e.hi, .slice aa na ca] 26)).alloc (.map #[] 0)) (w.heap.size + 1) 0 [] from
  ⟨.map [], by have := World.ownsMap_made (H := Unit) (w.alloc (.cells #[.int .i64 e.op, .string e.name, .slice aw nw cw, .int .i64 e.lo, .int .i64 e.hi, .slice aa na ca] 26)) Tryz.prog 9 unitElem; simpa using this, setIs_nil⟩)
 have HE := hI (show IsEx (mask ((w.alloc (.cells #[.int .i64 e.op, .string e.name, .slice aw nw cw, .int .i64 e.lo, .int .i64 e.hi, .slice aa na ca] 26)).alloc (.map #[] 0)) [w.heap.size + 1]) e (exV e.op e.name aw nw cw e.lo e.hi aa na ca) from
  he.mono (fun p q hp => by
   have hb := block_lt hp
   rw [mask_cell, if_neg (by simp; omega)]
   exact HX.out.cell hp))
 have HC := hI (collect_calls 900000 (by omega) e _ _ _ _ _ hs hf HE.out HSET.out (by omega))
 have hmm := @run_makeMap Tryz.prog
 rw [List.nil_append] at HC
 clear he HSET HE
 unfold exV at *
 refine (callsIn_wide (n := 6)).1 ?_
 have hfK : Fence.wide.fn 116 := trivial
 have hfS : Fence.wide.fn 115 := trivial
 have hfC : Fence.wide.fn 114 := trivial
 refine callsIn_of_wp Tryz.func94 rfl trivial ?_ rfl
 simp only [Tryz.ntmps94, List.size_toArray, List.length_cons, List.length_nil, Nat.reduceAdd, Nat.reduceSub, Array.replicate_succ, Array.replicate_zero, List.push_toArray, List.append_toArray, List.nil_append, List.cons_append]
 gi_wp2_with (first
  | (gi_at_call 114; refine (callsIn_wide.2 HC.out).mono ?_; rintro r w1 ⟨rfl, hset1, hc1⟩)
  | (gi_at_call 116; refine (Tryz.maps_Keys_42 _ _).mono ?_; rintro r w' ⟨rfl, rfl⟩))
 obtain ⟨D, hown, hsi⟩ := hset1
 have hsize := size_owned hown
 have hwx := hc1.ext HX.out (by simp)
 have HX1 := hI hwx
 have HSI := hI hsi
 clear hc1 hsi hwx
 refine (Tryz.slices_Sorted_keys_41_42 (w.heap.size + 1) _ D _ w1 hown (by unfold maxLen; omega) (by omega)).mono ?_
 rintro r w2 ⟨v, ss, rfl, hS, hrow, -, hb⟩
 have hsame := names_same HSI.out hS
 have hlen : ss.length = (refNames (namesE e)).length := by
  have := congrArg List.length hsame
  simpa using this
 rw [hsame] at hrow
 have hfr := hrow.lt
 obtain ⟨ra, rc, rfl, hst⟩ := strs_of_row hrow hlen
 have HFR := hI (show ∀ b off, ra = some ⟨b, off, none⟩ -> w.heap.size <= b by
  intro b off e
  subst e
  have h1 := (hfr b rfl).1
  have h2 := HX1.out.size
  simp at h1
  omega)
 have HST := hI hst
 have HX2 := hI ((HX1.out.alloc (.cells #[.map (some (w.heap.size + 1))] 136)).trans hb)
 clear hrow hst hb hS hsame hlen hown hsize hfr
 gi_wp2_with (fail)
 go_ret
 exact ⟨ra, rc, rfl, HST.out, HX2.out, HFR.out⟩
open Go.RowKit Go.Maps
def Cl.dfn (c : Cl) : Dfn := ⟨c.kind == 1, c.name, refNames (namesE c.cond)⟩
def IsInts (w : World) (l : ZI) (a : OA) (n c : Nat) : Prop :=
 n = l.length /\ n <= c /\ OkAddr a c /\ ∀ i (h : i < l.length), ∃ b off, a = some ⟨b, off, none⟩ /\ w.cell? ⟨b, off + i, none⟩ = some (.int .i64 l[i])
theorem IsInts.mono {w w' : World} {l : ZI} {a : OA} {n c : Nat} (h : IsInts w l a n c) (he : Sub w w') : IsInts w' l a n c :=
 ⟨h.1, h.2.1, h.2.2.1, fun i hi => by obtain ⟨b, off, h1, h2⟩ := h.2.2.2 i hi; exact ⟨b, off, h1, he _ _ h2⟩⟩
def ints (o : ZN) : ZI := o.map fun (i : Nat) => (i : Int)
def OrdQ (l : List Dfn) (w : World) (e : Ending) (w' : World) : Prop := Ext w w' /\
 ((∃ o a c, Topo l o /\ e = .returned (.tuple #[.slice a o.length c, .int .i64 0]) /\ IsInts w' (ints o) a o.length c) \/ (∃ o, OInv l o [] /\ o.length < countOf l /\ e = .returned (.tuple #[.slice none 0 0, .int .i64 10])))
theorem first_take {l : List Dfn} {k : Nat} (hk : k < l.length) (s : BA) : firstAt (l.take (k + 1)) s = match firstAt (l.take k) s with | some d => some d | none => if l[k].is = true /\ l[k].name = s then some k else none := by
 unfold firstAt
 rw [List.take_succ_eq_append_getElem hk, List.findIdx?_append]
 cases h : (l.take k).findIdx? fun d => d.is && decide (d.name = s) with
 | some d => simp
 | none =>
  simp only [List.findIdx?_cons, List.findIdx?_nil, List.length_take]
  by_cases hc : l[k].is = true /\ l[k].name = s
  ·simp [hc]; omega
  rw [if_neg hc]
  have : (l[k].is && decide (l[k].name = s)) = false := by
   simp only [Bool.and_eq_false_iff, decide_eq_false_iff_not]
   by_cases h1 : l[k].is = true
   ·exact Or.inr fun h2 => hc ⟨h1, h2⟩
   exact Or.inl (by simpa using h1)
  simp [this]
theorem uMapSI : Tryz.prog.underlying 109 = some (.map 9 3) := by kernel_rfl
theorem uMapSIs : Tryz.prog.underlying 135 = some (.map 9 22) := by kernel_rfl
theorem uMapIM : Tryz.prog.underlying 134 = some (.map 3 136) := by kernel_rfl
theorem uInt3 : Tryz.prog.underlying 3 = some (.int .i64) := by kernel_rfl
theorem keyedInt : Keyed Tryz.prog 3 := int_keyed uInt3
theorem zeroInt (w : World) : (zeroValue 3).run Tryz.prog w = .ok (.int .i64 0) w := by kernel_rfl
theorem zeroInts (w : World) : (zeroValue 22).run Tryz.prog w = .ok (.slice none 0 0) w := by kernel_rfl
theorem zeroSet (w : World) : (zeroValue 136).run Tryz.prog w = .ok (.map none) w := by kernel_rfl
theorem keyStr {s : BA} (h : s.size <= 1000000000000000) : keyOf Tryz.prog 9 (.string s) = some (.string s.data.toList) := Go.WideMaps.keyOf_string_mk uStr2 (by unfold maxLen; omega)
theorem keyInt {i : Nat} (h : i <= 1000000000000000) : keyOf Tryz.prog 3 (.int .i64 i) = some (.int .i64 i) := keyOf_int_mk uInt3 (by simp [Lit.wf, IntKind.min, IntKind.max, IntKind.bits, IntKind.signed]; omega)
theorem firstF_none {l : List Dfn} {s : BA} (h : firstAt l s = none) : strF (firstF l) (.string s.data.toList) = none := by rw [strF_at, firstF, h]; rfl
theorem firstF_some {l : List Dfn} {s : BA} {d : Nat} (h : firstAt l s = some d) : strF (firstF l) (.string s.data.toList) = some (.int .i64 d) := by rw [strF_at, firstF, h]; rfl
theorem firstF_step {l : List Dfn} {k : Nat} (hk : k < l.length) (hd : l[k].is = true) (hf : firstAt (l.take k) l[k].name = none) (x : Lit) : setF (strF (firstF (l.take k))) (.string l[k].name.data.toList) (some (.int .i64 k)) x = strF (firstF (l.take (k + 1))) x := by
 rw [setF_str]
 cases x <;> try rfl
 rename_i bs
 simp only [strF]
 by_cases e : (⟨bs.toArray⟩ : BA) = l[k].name
 ·rw [e, upS_same, firstF, first_take hk, hf]
  simp [hd]
 rw [upS_other _ _ e, firstF, firstF, first_take hk]
 cases firstAt (l.take k) ⟨bs.toArray⟩ with
 | some d => rfl
 | none =>
  have : ¬ (l[k].is = true /\ l[k].name = ⟨bs.toArray⟩) := fun h => e h.2.symm
  rw [if_neg this]
theorem firstF_skip {l : List Dfn} {k : Nat} (hk : k < l.length) (hd : l[k].is = false \/ firstAt (l.take k) l[k].name ≠ none) (x : Lit) : strF (firstF (l.take k)) x = strF (firstF (l.take (k + 1))) x := by
 cases x <;> try rfl
 rename_i bs
 simp only [strF, firstF]
 rw [first_take hk]
 cases h : firstAt (l.take k) ⟨bs.toArray⟩ with
 | some d => rfl
 | none =>
  have : ¬ (l[k].is = true /\ l[k].name = ⟨bs.toArray⟩) := by
   rintro ⟨h1, h2⟩
   rcases hd with h3 | h3
   ·rw [h3] at h1; cases h1
   rw [h2] at h3; exact h3 h
  rw [if_neg this]
def natF (D : BA -> Option Nat) : BA -> Option Value := fun s => (D s).map fun (n : Nat) => Value.int .i64 (n : Int)
mutual
theorem szE_le {D : BA -> Option Nat} (hD : ∀ s n, D s = some n -> n <= 2001) : (e : Ex) -> szE D e <= 2001
 | .mk op name _ _ _ args => by
  rw [szE]
  have hl := szL_le hD args 1 (by omega)
  by_cases h3 : op = 3
  ·rw [if_pos h3]
   cases hd : D name with
   | none => exact hl
   | some n => exact hD name n hd
  rw [if_neg h3]
  exact hl
theorem szL_le {D : BA -> Option Nat} (hD : ∀ s n, D s = some n -> n <= 2001) : (l : List Ex) -> ∀ n, n <= 2001 -> szL D n l <= 2001
 | [], n, hn => by simp [szL]; omega
 | e :: r, n, hn => by
  rw [szL]
  exact szL_le hD r _ (by omega)
end
def CExpL (D : BA -> Option Nat) (na : Nat) (args : List Ex) (w1 : World) (t i : Value) (wr : World) : Prop := ∃ k : Nat, i = .int .i64 k /\ k <= na /\ t = .int .i64 ((szL D 1 (args.take k) : Nat) : Int) /\ szL D 1 (args.take k) <= 2001 /\ Ext w1 wr
theorem cexp_calls (D : BA -> Option Nat) (hD : ∀ s n, D s = some n -> n <= 2001) (bm nm : Nat) : ∀ (m : Nat) (e : Ex) (ev : Value) (w : World), e.size <= m -> m <= 1000000000000000 -> e.fits -> MapAt w 9 bm nm (strF (natF D)) -> IsEx w e ev ->
  Calls Tryz.prog 75 #[.map (some bm), ev] w (GivesE (.int .i64 (szE D e)) w) := by
 intro m
 induction m with
 | zero => intro e ev w h; have := size_pos e; omega
 | succ m ihm =>
  intro e ev w hm hMM hfit hmap he
  obtain ⟨aw, nw, cw, aa, na, ca, rfl, hw, hna, hca, ha, hx⟩ := he.parts
  obtain ⟨hnm, hfa⟩ := fits_parts2 hfit
  have hS : e.size = 1 + sizes e.args := e.size_eq
  have hla := length_le_sizes e.args
  have hna2 : na <= 1000000000000000 := by omega
  have hszm : sizes e.args <= m := by omega
  have HM := hI hmap
  have HX := hI hx
  have HNA := hI hna
  have HFA := hI hfa
  have HSL := hI (szE_le hD)
  have HEQ := hI (szE_eq' D e)
  have IHM := hI ihm
  clear hw hna hca ha hx he hS hla ihm hm hfa hfit hmap
  unfold exV
  obtain ⟨wa, hwa⟩ : ∃ wa, wa = w.alloc (.cells #[.int .i64 e.op, .string e.name, .slice aw nw cw, .int .i64 e.lo, .int .i64 e.hi, .slice aa na ca] 26) := ⟨_, rfl⟩
  have hxa : Ext w wa := by rw [hwa]; exact (Ext.refl _).alloc _
  have hb1 : wa.heap[w.heap.size]? = some (.cells #[.int .i64 e.op, .string e.name, .slice aw nw cw, .int .i64 e.lo, .int .i64 e.hi, .slice aa na ca] 26 (0, 0)) := by rw [hwa]; exact alloc_new w _
  have HXA := hI hxa
  have HB1 := hI hb1
  obtain ⟨f0, f1, f2, f3, f4, f5, ff⟩ := blk6 hb1
  have hltw := blk_lt hb1
  have HMA := hI (HM.out.ext hxa)
  clear hxa hb1
  by_cases hdef : e.op = 3 /\ (D e.name).isSome = true
  ·obtain ⟨h3, hds⟩ := hdef
   obtain ⟨q, hq⟩ := Option.isSome_iff_exists.1 hds
   have t3 : (e.op == 3) = true := by simp [h3]
   have HQ := hI (show szE D e = q by rw [HEQ.out, if_pos h3, hq])
   have HF := hI (show strF (natF D) (.string e.name.data.toList) = some (.int .i64 q) by rw [strF_at, natF, hq]; rfl)
   clear hds hq h3 HEQ
   go_enter Tryz.func75, Tryz.ntmps75
   go_upto_region 2 with fail
   rw [<- hwa]
   clear hwa
   go_wp2_with (at_lookup; refine wpList_map_ok _ rfl _ _ 109 rfl 9 3 keyedStr uMapSI (zeroInt _) bm nm _ rfl HMA.out _ _ rfl (keyStr hnm) trivial ?_; rw [HF.out])
   go_ret
   exact givesE_of (by rw [HQ.out]) HXA.out
  have HQ := hI (show szE D e = szL D 1 e.args by
   rw [HEQ.out]
   by_cases h3 : e.op = 3
   ·rw [if_pos h3]
    cases hd : D e.name with
    | none => rfl
    | some q => exact absurd ⟨h3, by rw [hd]; rfl⟩ hdef
   rw [if_neg h3])
  clear HEQ
  by_cases h3 : e.op = 3
  case' pos =>
   have t3 : (e.op == 3) = true := by simp [h3]
   have HF := hI (show strF (natF D) (.string e.name.data.toList) = none by
    rw [strF_at, natF]
    cases hd : D e.name with
    | none => rfl
    | some q => exact absurd ⟨h3, by rw [hd]; rfl⟩ hdef)
   clear h3 hdef
   go_enter Tryz.func75, Tryz.ntmps75
   go_upto_region 2 with fail
   rw [<- hwa]
   clear hwa
   go_wp2_with (at_lookup; refine wpList_map_ok _ rfl _ _ 109 rfl 9 3 keyedStr uMapSI (zeroInt _) bm nm _ rfl HMA.out _ _ rfl (keyStr hnm) trivial ?_; rw [HF.out])
   clear HF
  case' neg =>
   have t3 : (e.op == 3) = false := by simp [h3]
   clear h3 hdef
   go_enter Tryz.func75, Tryz.ntmps75
   go_wp2_with fail
   rw [<- hwa]
   clear hwa
  all_goals
   clear f0 f1 f2 f3 f4 f5 ff
   go_loopw [7, 25] (CExpL D na e.args wa) (fun _ i _ => na - (intOf i).toNat)
   case atStart => exact ⟨0, rfl, by omega, by simp [szL], by simp [szL], Ext.refl _⟩
   case round =>
    obtain ⟨k, rfl, hk, rfl, hle, hxr⟩ := hrel
    have HXR := hI hxr
    clear hxr
    obtain ⟨N, hN⟩ : ∃ N, N = szL D 1 (e.args.take k) := ⟨_, rfl⟩
    rw [<- hN] at hle ⊢
    have HNN := hI hN
    clear hN
    by_cases hkn : k < na
    ·have hka : k < e.args.length := by have := HNA.out; omega
     have t1 : decide ((k : Int) < (na : Int)) = true := decide_eq_true (by omega)
     obtain ⟨b, off, rfl, aw1, nw1, cw1, aa1, na1, ca1, h0, h1, h2, h3, h4, h5, h6⟩ := ExsD.at e.args _ (ExsD.ext (HXA.out.trans HXR.out) e.args _ HX.out) k hka
     have H6 := hI h6
     have hs1 := sizes_take_succ e.args k hka
     have hs2 := sizes_take_le e.args (k + 1)
     have hk1 : e.args[k].size <= m := by omega
     have HTS := hI (szL_take_succ D e.args 1 k hka)
     have hel := HSL.out e.args[k]
     have hblt := block_lt h0
     simp only at hblt
     clear h6 hs1 hs2
     obtain ⟨wx, hwx⟩ : ∃ wx, wx = wr.alloc (.cells #[.int .i64 e.args[k].op, .string e.args[k].name, .slice aw1 nw1 cw1, .int .i64 e.args[k].lo, .int .i64 e.args[k].hi, .slice aa1 na1 ca1] 26) := ⟨_, rfl⟩
     have HXX := hI (show Ext wr wx by rw [hwx]; exact (Ext.refl _).alloc _)
     go_wp2_with fail
     rw [<- hwx]
     clear hwx
     refine (IHM.out e.args[k] _ _ hk1 (by omega) (HFA.out _ (List.getElem_mem hka)) (HMA.out.ext (HXR.out.trans HXX.out)) (H6.out.ext HXX.out)).mono ?_
     rintro r w3 ⟨rfl, hx3⟩
     have HX3 := hI (HXR.out.trans (HXX.out.trans hx3))
     clear hx3 h0 h1 h2 h3 h4 h5
     go_wp2_with fail
     all_goals
      go_roundw
      case rel => exact ⟨k + 1, by go_num, by omega, by rw [HTS.out, <- HNN.out]; congr 1; omega, by rw [HTS.out]; omega, HX3.out⟩
      case measure => simp [intOf]; omega
    have t1 : decide ((k : Int) < (na : Int)) = false := decide_eq_false (by omega)
    have HR := hI (show N = szE D e by rw [HQ.out, HNN.out, List.take_of_length_le (by have := HNA.out; omega)])
    have HXE := hI (HXA.out.trans HXR.out)
    go_wp2_with fail
    go_ret
    exact givesE_of (by rw [<- HR.out]) HXE.out
theorem uMapSE : Tryz.prog.underlying 69 = some (.map 9 26) := by kernel_rfl
theorem zeroEx (w : World) : (zeroValue 26).run Tryz.prog w = .ok (.agg #[.int .i64 0, .string ⟨#[]⟩, .slice none 0 0, .int .i64 0, .int .i64 0, .slice none 0 0]) w := by kernel_rfl
theorem defAt_take {l : List Cla} {k : Nat} (hk : k < l.length) (s : BA) : defAt (l.take (k + 1)) s = match defAt (l.take k) s with | some d => some d | none => if l[k].kind = 1 /\ l[k].name = s then some k else none := by
 have h := first_take (l := l.map Cla.dfn) (k := k) (by simpa using hk) s
 rw [<- List.map_take, <- List.map_take, firstAt_dfn, firstAt_dfn] at h
 rw [h]
 cases defAt (l.take k) s <;> simp [Cla.dfn]
def DefsG (w : World) (l : List Cla) (g : BA -> Option Value) : Prop := ∀ s, (defAt l s = none -> g s = none) /\ ∀ d, defAt l s = some d -> ∃ v, g s = some v /\ IsEx w (l.getD d cla0).cond v
theorem DefsG.ext {w w' : World} {l : List Cla} {g : BA -> Option Value} (h : DefsG w l g) (hx : Ext w w') : DefsG w' l g := fun s => ⟨(h s).1, fun d hd => by obtain ⟨v, h1, h2⟩ := (h s).2 d hd; exact ⟨v, h1, h2.ext hx⟩⟩
def DefsAt (w : World) (l : List Cla) (b n : Nat) : Prop := ∃ g, MapAt w 9 b n (strF g) /\ DefsG w l g
theorem DefsAt.ext {w w' : World} {l : List Cla} {b n : Nat} (h : DefsAt w l b n) (hx : Ext w w') : DefsAt w' l b n := by
 obtain ⟨g, h1, h2⟩ := h
 exact ⟨g, h1.ext hx, h2.ext hx⟩
theorem getD_take {l : List Cla} {k d : Nat} (hd : d < k) : (l.take k).getD d cla0 = l.getD d cla0 := by simp [List.getD, hd]
theorem DefsG.skip {w : World} {l : List Cla} {k : Nat} {g : BA -> Option Value} (hk : k < l.length) (h : DefsG w (l.take k) g) (hs : l[k].kind ≠ 1 \/ defAt (l.take k) l[k].name ≠ none) : DefsG w (l.take (k + 1)) g := by
 intro s
 have hdd : ∀ d, defAt (l.take k) s = some d -> d < k := fun d hd => by have := defAt_lt hd; simp at this; omega
 have key : defAt (l.take (k + 1)) s = defAt (l.take k) s := by
  rw [defAt_take hk]
  cases hd : defAt (l.take k) s with
  | some d => rfl
  | none =>
   rw [if_neg]
   rintro ⟨h1, h2⟩
   rcases hs with h3 | h3
   ·exact h3 h1
   rw [h2] at h3; exact h3 hd
 rw [key]
 refine ⟨(h s).1, fun d hd => ?_⟩
 have := hdd d hd
 rw [getD_take (by omega), <- getD_take (k := k) this]
 exact (h s).2 d hd
theorem DefsG.step {w : World} {l : List Cla} {k : Nat} {g : BA -> Option Value} (hk : k < l.length) (h : DefsG w (l.take k) g) (hk1 : l[k].kind = 1) (hn : defAt (l.take k) l[k].name = none) {v : Value} (hv : IsEx w l[k].cond v) : DefsG w (l.take (k + 1)) (upS g l[k].name (some v)) := by
 intro s
 rw [defAt_take hk]
 by_cases e : s = l[k].name
 ·subst e
  rw [hn, upS_same]
  simp only [hk1, and_self, if_true]
  refine ⟨fun h => by simp at h, fun d hd => ?_⟩
  obtain rfl : k = d := by simpa using hd
  rw [getD_take (by omega), getD_cla hk]
  exact ⟨v, rfl, hv⟩
 rw [upS_other _ _ e]
 cases hd : defAt (l.take k) s with
 | none =>
  have : ¬ (l[k].kind = 1 /\ l[k].name = s) := fun h => e h.2.symm
  simp only [if_neg this]
  exact ⟨fun _ => (h s).1 hd, fun d hd' => by cases hd'⟩
 | some d =>
  have hdk : d < k := by have := defAt_lt hd; simp at this; omega
  refine ⟨fun h => by simp at h, fun d' hd' => ?_⟩
  obtain rfl : d = d' := by simpa using hd'
  rw [getD_take (by omega), <- getD_take (k := k) hdk]
  exact (h s).2 d hd
def DefsQ (l : List Cla) (n : Nat) (w : World) (e : Ending) (w' : World) : Prop := ∃ b, e = .returned (.map (some b)) /\ DefsAt w' l b n /\ Ext w w'
theorem definitions_calls (l : List Cla) (a : OA) (n c : Nat) (w : World) (hl : IsClas w l a n c) (hn : n <= 1000000) (hsz : ∀ x ∈ l, x.name.size <= 1000000000000000) :
  Calls Tryz.prog 70 #[.slice a n c] w (DefsQ l n w) := by
 have HL := hI hl
 have HN := hI hl.len
 have HSZ := hI hsz
 clear hl hsz
 have hmm := @run_makeMap Tryz.prog
 have HM0 := hI (MapAt.made w 9)
 have HX0 := hI ((Ext.refl w).alloc (.map #[] 0))
 obtain ⟨bf, hbf⟩ : ∃ bf : Nat, bf = w.heap.size := ⟨_, rfl⟩
 rw [<- hbf] at HM0
 have HBF := hI hbf
 go_enter Tryz.func70, Tryz.ntmps70
 go_wp2_with fail
 rw [<- hbf]
 clear hbf hmm
 go_loopw [11] (fun i wr => ∃ (k : Nat) (g : BA -> Option Value), k <= n /\ i = .int .i64 k /\ MapAt wr 9 bf k (strF g) /\ DefsG w (l.take k) g /\ Ext w wr) (fun i _ => n - (intOf i).toNat)
 case atStart =>
  refine ⟨0, fun _ => none, by omega, rfl, HM0.out.congr fun x => ?_, fun s => ⟨fun _ => rfl, fun d hd => ?_⟩, HX0.out⟩
  ·cases x <;> simp [strF]
  simp [defAt] at hd
 case round =>
  obtain ⟨k, g, hk, rfl, hmap, hg, hx⟩ := hrel
  have HMP := hI hmap
  have HX := hI hx
  have HG := hI hg
  have hbw := hmap.lt
  clear hmap hx hg HM0 HX0
  by_cases hlt : k < n
  ·have hlt' : k < l.length := by have := HN.out; omega
   have t1 : decide ((k : Int) < (n : Int)) = true := decide_eq_true (by omega)
   obtain ⟨cb, coff, v, rfl, hcla, hrow⟩ := HL.out.at hlt'
   obtain ⟨c0, c1, c2, c3, c4, c5, c6, c7, c8, c9⟩ := (hrow.mono HX.out.sub).ten
   have hns : v.name.size <= 1000000000000000 := by rw [hcla.2.1]; exact HSZ.out _ (List.getElem_mem hlt')
   have hblt := block_lt c0
   simp only at hblt
   have HEX := hI (show IsEx w l[k].cond (.agg #[.int .i64 v.x.op, .string v.x.name, .slice v.x.aw v.x.nw v.x.cw, .int .i64 v.x.lo, .int .i64 v.x.hi, .slice v.x.aa v.x.na v.x.ca]) from hcla.2.2.1)
   have HEK := hI (show l[k].kind = v.kind from hcla.1.symm)
   have HEN := hI (show l[k].name = v.name from hcla.2.1.symm)
   have HST := hI (fun h1 h2 => HG.out.step hlt' h1 h2 HEX.out)
   have HSK := hI (HG.out.skip hlt')
   rw [HEK.out, HEN.out] at HST HSK
   clear hcla hrow
   cases hfa : defAt (l.take k) v.name with
   | none =>
    have HF := hI (show strF g (.string v.name.data.toList) = none by rw [strF_at]; exact (HG.out _).1 hfa)
    cases hkd : (v.kind == 1)
    ·have HKN := hI (HSK.out (Or.inl (by simpa using hkd)))
     go_wp2_with (at_lookup; refine wpList_map_ok _ rfl _ _ 69 rfl 9 26 keyedStr uMapSE (zeroEx _) bf k _ rfl (HMP.out.ext ((Ext.refl wr).alloc _)) _ _ rfl (keyStr hns) trivial ?_; rw [HF.out])
     go_roundw
     case rel => exact ⟨k + 1, g, by omega, by go_num, (HMP.out.ext (((Ext.refl wr).alloc _).alloc _)).more (by omega), HKN.out, (HX.out.alloc _).alloc _⟩
     case measure => simp [intOf]; omega
    have HKN := hI (HST.out (by simpa using hkd) hfa)
    clear hfa
    go_wp2_with (first
     | (at_lookup; refine wpList_map_ok _ rfl _ _ 69 rfl 9 26 keyedStr uMapSE (zeroEx _) bf k _ rfl (HMP.out.ext ((Ext.refl wr).alloc _)) _ _ rfl (keyStr hns) trivial ?_; rw [HF.out])
     | (at_mapUpdate; refine wpList_map_put _ rfl _ _ _ 69 rfl 9 26 keyedStr uMapSE bf k _ rfl (HMP.out.ext (((Ext.refl wr).alloc _).alloc _)) ?c3 _ _ _ rfl rfl (keyStr hns) trivial ?_))
    case c3 => unfold maxLen; omega
    intro w1 hm1 hc1
    have HM1 := hI (hm1.congr (setF_str g v.name _))
    have HX1 := hI (hc1.ext ((HX.out.alloc _).alloc _) (by rw [<- HBF.out]; simp))
    clear hm1 hc1
    go_wp2_with fail
    go_roundw
    case rel => exact ⟨k + 1, _, by omega, by go_num, HM1.out, HKN.out, HX1.out⟩
    case measure => simp [intOf]; omega
   | some d =>
    obtain ⟨u, hu, hux⟩ := (HG.out v.name).2 d hfa
    obtain ⟨aw, nw, cw, aa, na, ca, rfl, -, -, -, -, -⟩ := hux.parts
    have HF := hI (show strF g (.string v.name.data.toList) = some _ by rw [strF_at]; exact hu)
    have HKN := hI (HSK.out (Or.inr (by rw [hfa]; simp)))
    unfold exV at HF
    clear hfa hu hux
    cases hkd : (v.kind == 1)
    all_goals
     go_wp2_with (at_lookup; refine wpList_map_ok _ rfl _ _ 69 rfl 9 26 keyedStr uMapSE (zeroEx _) bf k _ rfl (HMP.out.ext ((Ext.refl wr).alloc _)) _ _ rfl (keyStr hns) trivial ?_; rw [HF.out])
     go_roundw
     case rel => exact ⟨k + 1, g, by omega, by go_num, (HMP.out.ext (((Ext.refl wr).alloc _).alloc _)).more (by omega), HKN.out, (HX.out.alloc _).alloc _⟩
     case measure => simp [intOf]; omega
  have t1 : decide ((k : Int) < (n : Int)) = false := decide_eq_false (by omega)
  have hkn : k = n := by omega
  have HGE := hI (show DefsAt wr l bf n from ⟨g, by rw [<- hkn]; exact HMP.out, by have := HG.out.ext HX.out; rwa [List.take_of_length_le (by have := HN.out; omega)] at this⟩)
  clear hkn
  go_wp2_with fail
  go_ret
  exact ⟨bf, rfl, HGE.out, HX.out⟩
def kindFor (op : Int) : Int := if op = 3 then 3 else if op = 4 then 1 else if op = 5 then 2 else 0
def cnodeErr (s : List Attr) (l : List Cla) (op : Int) (name : BA) (words : ZB) (lo hi : Int) : Int :=
 if kindFor op = 0 then 0 else match attrAt s name with
 | none => if op = 3 /\ (defAt l name).isSome = true then 0 else 7
 | some i => if (s.getD i attr0).kind ≠ kindFor op then 9 else if (words.all fun x => decide (x ∈ (s.getD i attr0).words)) = false then 7 else if lo < (s.getD i attr0).lo \/ (s.getD i attr0).hi < hi then 1 else 0
theorem cnode_none {s : List Attr} {l : List Cla} {op : Int} {name : BA} {words : ZB} {lo hi : Int} (hk : kindFor op ≠ 0) (h : attrAt s name = none) : cnodeErr s l op name words lo hi = if op = 3 /\ (defAt l name).isSome = true then 0 else 7 := by
 unfold cnodeErr; rw [if_neg hk, h]
theorem cnode_some {s : List Attr} {l : List Cla} {op : Int} {name : BA} {words : ZB} {lo hi : Int} (hk : kindFor op ≠ 0) {i : Nat} (h : attrAt s name = some i) (hi' : i < s.length) : cnodeErr s l op name words lo hi =
  if s[i].kind ≠ kindFor op then 9 else if (words.all fun x => decide (x ∈ s[i].words)) = false then 7 else if lo < s[i].lo \/ s[i].hi < hi then 1 else 0 := by
 unfold cnodeErr; rw [if_neg hk, h]
 simp only [getD_attr hi']
theorem cnode_calls (s : List Attr) (sv : Value) (l : List Cla) (bm nm : Nat) (e : Ex) (ev : Value) (w : World) (hs : IsSchema w s sv) (hf : ∀ x ∈ s, x.fits) (hsl : s.length <= 1000000000000000) (hd : DefsAt w l bm nm) (he : IsEx w e ev) (hew : e.words.length <= 1000000000000000) (hen : e.name.size <= 1000000000000000) :
  Calls Tryz.prog 120 #[sv, .map (some bm), ev] w (GivesE (.int .i64 (cnodeErr s l e.op e.name e.words e.lo e.hi)) w) := by
 obtain ⟨sa, sn, sc, rfl, hsn⟩ := hs.slice
 obtain ⟨aw, nw, cw, aa, na, ca, rfl, hw, hna, hca, ha, hx⟩ := he.parts
 have HS := hI hs
 have HF := hI hf
 have HD := hI hd
 have HW := hI hw
 have HSN := hI hsn
 have HNW := hI hw.1
 have hnw : nw <= 1000000000000000 := by rw [hw.1]; exact hew
 have hsn2 : sn <= 1000000000000000 := by omega
 clear hs hf hd hw hsn he hna hca ha hx hew
 unfold exV
 obtain ⟨op, name, words, lo, hi, args⟩ := e
 simp only [Ex.op, Ex.name, Ex.words, Ex.lo, Ex.hi] at *
 obtain ⟨wa, hwa⟩ : ∃ wa, wa = (w.alloc (.cells #[.slice sa sn sc] 31)).alloc (.cells #[.int .i64 op, .string name, .slice aw nw cw, .int .i64 lo, .int .i64 hi, .slice aa na ca] 26) := ⟨_, rfl⟩
 have hxa : Ext w wa := by rw [hwa]; exact ((Ext.refl _).alloc _).alloc _
 have hb0 : wa.heap[w.heap.size]? = some (.cells #[.slice sa sn sc] 31 (0, 0)) := by rw [hwa]; exact blk_alloc (alloc_new w _)
 have hb1 : wa.heap[w.heap.size + 1]? = some (.cells #[.int .i64 op, .string name, .slice aw nw cw, .int .i64 lo, .int .i64 hi, .slice aa na ca] 26 (0, 0)) := by rw [hwa]; exact alloc_atR (by simp)
 have HI := hI (sIndex_calls s _ name wa (HS.out.ext hxa) (by have := HSN.out; omega))
 have HXA := hI hxa
 have HB0 := hI hb0
 have HB1 := hI hb1
 obtain ⟨E, hE⟩ : ∃ E, E = cnodeErr s l op name words lo hi := ⟨_, rfl⟩
 rw [<- hE]
 have HE := hI hE
 clear hE
 obtain ⟨a0, af⟩ := blk1 hb0
 obtain ⟨b0, b1, b2, b3, b4, b5, bf⟩ := blk6 hb1
 have hlt1 := blk_lt hb1
 clear hxa hb0 hb1
 by_cases hop : op = 3 \/ op = 4 \/ op = 5
 case neg =>
  have HR := hI (show E = 0 by
   rw [HE.out, cnodeErr, if_pos]
   unfold kindFor
   rw [if_neg (by omega), if_neg (by omega), if_neg (by omega)])
  have e3 : (op == 3) = false := by simp; omega
  have e4 : (op == 4) = false := by simp; omega
  have e5 : (op == 5) = false := by simp; omega
  clear hop
  go_enter Tryz.func120, Tryz.ntmps120
  go_upto_region 1 with fail
  rw [<- hwa]
  clear hwa
  go_wp2_with fail
  go_ret
  exact givesE_of (by rw [HR.out]) HXA.out
 obtain ⟨kd, hkd⟩ : ∃ kd : Int, (op = 3 /\ kd = 3) \/ (op = 4 /\ kd = 1) \/ (op = 5 /\ kd = 2) := by
  rcases hop with h | h | h
  ·exact ⟨3, Or.inl ⟨h, rfl⟩⟩
  ·exact ⟨1, Or.inr (Or.inl ⟨h, rfl⟩)⟩
  exact ⟨2, Or.inr (Or.inr ⟨h, rfl⟩)⟩
 have hkf : kindFor op = kd /\ kd ≠ 0 := by
  rcases hkd with ⟨rfl, rfl⟩ | ⟨rfl, rfl⟩ | ⟨rfl, rfl⟩ <;> exact ⟨rfl, by decide⟩
 clear hop
 have HK0 := hI (show kindFor op ≠ 0 by rw [hkf.1]; exact hkf.2)
 have HKF := hI hkf.1
 clear hkf
 cases ho : attrAt s name with
 | none =>
  rw [ho, optV_none] at HI
  have HQ := hI (show E = if op = 3 /\ (defAt l name).isSome = true then 0 else 7 by rw [HE.out]; exact cnode_none HK0.out ho)
  clear ho HE HK0 HKF
  obtain ⟨g, hmap, hg⟩ := HD.out
  have HMP := hI hmap
  have HG := hI hg
  clear hmap hg
  cases hda : defAt l name with
  | none =>
   have HFN := hI (show strF g (.string name.data.toList) = none by rw [strF_at]; exact (HG.out _).1 hda)
   have HR := hI (show E = 7 by rw [HQ.out, hda]; simp)
   clear hda HQ
   rcases hkd with ⟨rfl, rfl⟩ | ⟨rfl, rfl⟩ | ⟨rfl, rfl⟩
   all_goals
    go_enter Tryz.func120, Tryz.ntmps120
    go_upto_region 1 with fail
    rw [<- hwa]
    clear hwa
    go_wp2_with fail
    refine HI.out.mono ?_
    rintro r w3 ⟨rfl, hx3⟩
    have HX3 := hI (HXA.out.trans hx3)
    have HM3 := hI (HMP.out.ext HX3.out)
    clear b0 b1 b2 b3 b4 b5 bf a0 af hlt1
    obtain ⟨b0, b1, b2, b3, b4, b5, bf⟩ := blk6 (hx3.blk HB1.out)
    have hlt := blk_lt (hx3.blk HB1.out)
    clear hx3
    go_wp2_with (at_lookup; refine wpList_map_ok _ rfl _ _ 69 rfl 9 26 keyedStr uMapSE (zeroEx _) bm nm _ rfl HM3.out _ _ rfl (keyStr hen) trivial ?_; rw [HFN.out])
    go_ret
    exact givesE_of (by rw [HR.out]) (HX3.out.alloc _)
  | some d =>
   obtain ⟨u, hu, hux⟩ := (HG.out name).2 d hda
   obtain ⟨aw', nw', cw', aa', na', ca', rfl, -, -, -, -, -⟩ := hux.parts
   have HFN := hI (show strF g (.string name.data.toList) = some _ by rw [strF_at]; exact hu)
   unfold exV at HFN
   have HR := hI (show E = if op = 3 then 0 else 7 by rw [HQ.out, hda]; simp)
   clear hda HQ hu hux
   rcases hkd with ⟨rfl, rfl⟩ | ⟨rfl, rfl⟩ | ⟨rfl, rfl⟩
   all_goals
    go_enter Tryz.func120, Tryz.ntmps120
    go_upto_region 1 with fail
    rw [<- hwa]
    clear hwa
    go_wp2_with fail
    refine HI.out.mono ?_
    rintro r w3 ⟨rfl, hx3⟩
    have HX3 := hI (HXA.out.trans hx3)
    have HM3 := hI (HMP.out.ext HX3.out)
    clear b0 b1 b2 b3 b4 b5 bf a0 af hlt1
    obtain ⟨b0, b1, b2, b3, b4, b5, bf⟩ := blk6 (hx3.blk HB1.out)
    have hlt := blk_lt (hx3.blk HB1.out)
    clear hx3
    go_wp2_with (at_lookup; refine wpList_map_ok _ rfl _ _ 69 rfl 9 26 keyedStr uMapSE (zeroEx _) bm nm _ rfl HM3.out _ _ rfl (keyStr hen) trivial ?_; rw [HFN.out])
    go_ret
    exact givesE_of (by rw [HR.out]; decide) (HX3.out.alloc _)
 | some i =>
  rw [ho, optV_some] at HI
  have his := attrAt_lt ho
  have hin : i < sn := by have := HSN.out; omega
  have HQ := hI (show E = if s[i].kind ≠ kd then 9 else if (words.all fun x => decide (x ∈ s[i].words)) = false then 7 else if lo < s[i].lo \/ s[i].hi < hi then 1 else 0 by rw [HE.out, cnode_some HK0.out ho his, HKF.out])
  clear ho HE HK0 HKF
  have ti0 : (0 : Int) <= (i : Int) := by omega
  have ti1 : (i : Int) < (sn : Int) := by omega
  have hfi := HF.out _ (List.getElem_mem his)
  have hxn0 := hfi.2.1
  clear hfi
  by_cases hk : s[i].kind = kd
  case neg =>
   have tk : (s[i].kind != kd) = true := by simp [hk]
   have HR := hI (show E = 9 by rw [HQ.out, if_pos hk])
   clear hk HQ
   rcases hkd with ⟨rfl, rfl⟩ | ⟨rfl, rfl⟩ | ⟨rfl, rfl⟩
   all_goals
    go_enter Tryz.func120, Tryz.ntmps120
    go_upto_region 1 with fail
    rw [<- hwa]
    clear hwa
    go_wp2_with fail
    refine HI.out.mono ?_
    rintro r w3 ⟨rfl, hx3⟩
    have HX3 := hI (HXA.out.trans hx3)
    clear b0 b1 b2 b3 b4 b5 bf a0 af hlt1
    obtain ⟨d0, df⟩ := blk1 (hx3.blk HB0.out)
    have hlt := blk_lt (hx3.blk HB1.out)
    obtain ⟨sb, soff, xw, xn, xc, rfl, g0, g1, g2, g3, g4, g5⟩ := (HS.out.ext HX3.out).cells his
    clear hx3 g5
    go_wp2_with fail
    go_ret
    exact givesE_of (by rw [HR.out]) (HX3.out.alloc _)
  have tk : (s[i].kind != kd) = false := by simp [hk]
  have HR := hI (show E = if (words.all fun x => decide (x ∈ s[i].words)) = false then 7 else if lo < s[i].lo \/ s[i].hi < hi then 1 else 0 by rw [HQ.out, if_neg (by simpa using hk)])
  clear hk HQ
  rcases hkd with ⟨rfl, rfl⟩ | ⟨rfl, rfl⟩ | ⟨rfl, rfl⟩
  all_goals
   go_enter Tryz.func120, Tryz.ntmps120
   go_upto_region 1 with fail
   rw [<- hwa]
   clear hwa
   go_wp2_with fail
   refine HI.out.mono ?_
   rintro r w3 ⟨rfl, hx3⟩
   have HX3 := hI (HXA.out.trans hx3)
   clear b0 b1 b2 b3 b4 b5 bf a0 af hlt1
   obtain ⟨d0, df⟩ := blk1 (hx3.blk HB0.out)
   have HB13 := hI (hx3.blk HB1.out)
   have hlt := blk_lt (hx3.blk HB1.out)
   obtain ⟨sb, soff, xw, xn, xc, rfl, g0, g1, g2, g3, g4, g5⟩ := (HS.out.ext HX3.out).cells his
   have HG5 := hI g5
   have hxn : xn <= 1000000000000000 := by rw [g5.1]; exact hxn0
   clear hx3 g5
   go_upto_region 17 with fail
   obtain ⟨wb, hwb⟩ : ∃ wb, wb = w3.alloc (.cells #[.string s[i].name, .int .i64 s[i].kind, .slice xw xn xc, .int .i64 s[i].lo, .int .i64 s[i].hi] 85) := ⟨_, rfl⟩
   rw [<- hwb]
   have hxb : Ext w3 wb := by rw [hwb]; exact (Ext.refl _).alloc _
   have hbb : wb.heap[w3.heap.size]? = some (.cells #[.string s[i].name, .int .i64 s[i].kind, .slice xw xn xc, .int .i64 s[i].lo, .int .i64 s[i].hi] 85 (0, 0)) := by rw [hwb]; exact alloc_new w3 _
   have HBB := hI hbb
   have HB6 := hI (hxb.blk HB13.out)
   have HXB := hI (HX3.out.trans hxb)
   have HGB := hI (HG5.out.ext hxb)
   have HWB := hI (HW.out.ext HXB.out)
   obtain ⟨p0, p1, p2, p3, p4, pf⟩ := blk5b hbb
   obtain ⟨q0, q1, q2, q3, q4, q5, qf⟩ := blk6 HB6.out
   have hltb := blk_lt hbb
   clear hwb hxb hbb d0 df g0 g1 g2 g3 g4 HG5 hlt
   go_wp2_with fail
   go_loop [57] (fun t => ∃ k : Nat, t = .int .i64 k /\ k <= nw /\ (∀ j (h : j < words.length), j < k -> decide (words[j] ∈ s[i].words) = true)) (fun t => nw - (intOf t).toNat)
   case atStart => exact ⟨0, rfl, by omega, fun j _ h => by omega⟩
   case round =>
    obtain ⟨k, rfl, hk, hall⟩ := hrel
    have HALL := hI hall
    clear hall
    by_cases hkn : k < nw
    ·have hkw : k < words.length := by have := HNW.out; omega
     have t1 : decide ((k : Int) < (nw : Int)) = true := decide_eq_true (by omega)
     obtain ⟨wb', woff, rfl, cw0⟩ := HWB.out.2.2.2 k hkw
     cases hany : decide (words[k] ∈ s[i].words)
     ·have HA := hI hany
      have HR2 := hI (show E = 7 by
       rw [HR.out, if_pos]
       rw [List.all_eq_false]
       exact ⟨words[k], List.getElem_mem hkw, by rw [hany]; simp⟩)
      clear hany
      go_wp2_with fail
      refine (contains_calls _ _ _ _ _ _ hxn HGB.out).mono ?_
      rintro e w' ⟨rfl, rfl⟩
      rw [HA.out]
      go_wp2_with fail
      go_ret
      exact givesE_of (by rw [HR2.out]) HXB.out
     have HA := hI hany
     clear hany
     go_wp2_with fail
     refine (contains_calls _ _ _ _ _ _ hxn HGB.out).mono ?_
     rintro e w' ⟨rfl, rfl⟩
     rw [HA.out]
     go_wp2_with fail
     go_round
     case rel =>
      refine ⟨k + 1, by go_num, by omega, fun j hj hjk => ?_⟩
      by_cases e : j = k
      ·subst e; exact HA.out
      exact HALL.out j hj (by omega)
     case measure => simp [intOf]; omega
    have t1 : decide ((k : Int) < (nw : Int)) = false := decide_eq_false (by omega)
    have HR2 := hI (show E = if lo < s[i].lo \/ s[i].hi < hi then 1 else 0 by
     rw [HR.out, if_neg]
     rw [Bool.not_eq_false, List.all_eq_true]
     intro y hy
     obtain ⟨j, hj, rfl⟩ := List.mem_iff_getElem.1 hy
     exact HALL.out j hj (by have := HNW.out; omega))
    clear HALL
    go_wp2_with fail
    all_goals (go_ret; exact givesE_of (by rw [HR2.out]; simp_all <;> omega) HXB.out)
end Go.Proofs.YtpkljcgihobaiaaGreatDoor
