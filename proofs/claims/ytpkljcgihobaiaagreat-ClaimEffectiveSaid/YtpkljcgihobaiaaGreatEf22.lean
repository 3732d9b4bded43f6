/-
  Texts of the claim, joined: LaySo.
-/
import Derived.Shelf.Sort.Plain
import Derived.Ground.Names2Prog
import Derived.Shelf.Slices.CompactI
import Derived.Test.YtpkljcgihobaiaaGreatEf01
/-
 The shelf's contracts of slices.Sort and slices.Compact of ints at this program, in plain words (printed by lay-shelf.mjs, lay-plain.mjs, shelftpl.py).
-/
namespace Go.Proofs.YtpkljcgihobaiaaGreat
set_option maxRecDepth 100000
set_option maxHeartbeats 32000000
open Go.Shelf
def Tryz.lays189_ren : Go.Shelf.Ren := ⟨fun | 189 => 50 | 125 => 92 | 257 => 91 | 128 => 142 | 129 => 143 | 294 => 133 | 295 => 134 | 296 => 135 | 297 => 136 | 298 => 137 | 299 => 138 | 216 => 139 | 300 => 140 | 301 => 141 | 328 => 158 | 329 => 159 | 330 => 160 | 331 => 161 | 332 => 162 | 215 => 163 | 343 => 170 | n => n, fun | 28 => 31 | 3 => 3 | 46 => 171 | 0 => 0 | 51 => 213 | 53 => 215 | 4 => 4 | 183 => 206 | 182 => 205 | 131 => 127 | 5 => 5 | 9 => 9 | 218 => 225 | 222 => 229 | 228 => 235 | 229 => 180 | n => n, fun | n => n⟩
theorem Tryz.lays189 : Go.Proofs.Lays.n189 Tryz.prog Tryz.lays189_ren := {
 mixed := by kernel_rfl
 f125 := Tryz.func92.trans (congrArg some (by kernel_rfl))
 f128 := Tryz.func142.trans (congrArg some (by kernel_rfl))
 f129 := Tryz.func143.trans (congrArg some (by kernel_rfl))
 f189 := Tryz.func50.trans (congrArg some (by kernel_rfl))
 f215 := Tryz.func163.trans (congrArg some (by kernel_rfl))
 f216 := Tryz.func139.trans (congrArg some (by kernel_rfl))
 f257 := Tryz.func91.trans (congrArg some (by kernel_rfl))
 f294 := Tryz.func133.trans (congrArg some (by kernel_rfl))
 f295 := Tryz.func134.trans (congrArg some (by kernel_rfl))
 f296 := Tryz.func135.trans (congrArg some (by kernel_rfl))
 f297 := Tryz.func136.trans (congrArg some (by kernel_rfl))
 f298 := Tryz.func137.trans (congrArg some (by kernel_rfl))
 f299 := Tryz.func138.trans (congrArg some (by kernel_rfl))
 f300 := Tryz.func140.trans (congrArg some (by kernel_rfl))
 f301 := Tryz.func141.trans (congrArg some (by kernel_rfl))
 f328 := Tryz.func158.trans (congrArg some (by kernel_rfl))
 f329 := Tryz.func159.trans (congrArg some (by kernel_rfl))
 f330 := Tryz.func160.trans (congrArg some (by kernel_rfl))
 f331 := Tryz.func161.trans (congrArg some (by kernel_rfl))
 f332 := Tryz.func162.trans (congrArg some (by kernel_rfl))
 f343 := Tryz.func170.trans (congrArg some (by kernel_rfl))
 t0 := Tryz.underlying0
 a0 := Tryz.isAgg0
 z0 := Tryz.sizeOf0
 v0 := Tryz.zeroValue0
 t3 := Tryz.underlying3
 a3 := Tryz.isAgg3
 z3 := Tryz.sizeOf3
 v3 := Tryz.zeroValue3
 t4 := Tryz.underlying4
 a4 := Tryz.isAgg4
 z4 := Tryz.sizeOf4
 v4 := Tryz.zeroValue4
 t5 := Tryz.underlying5
 a5 := Tryz.isAgg5
 z5 := Tryz.sizeOf5
 v5 := Tryz.zeroValue5
 t9 := Tryz.underlying9
 a9 := Tryz.isAgg9
 z9 := Tryz.sizeOf9
 v9 := Tryz.zeroValue9
 t28 := Tryz.underlying31
 a28 := Tryz.isAgg31
 z28 := Tryz.sizeOf31
 v28 := Tryz.zeroValue31
 t46 := Tryz.underlying171
 a46 := Tryz.isAgg171
 z46 := Tryz.sizeOf171
 v46 := Tryz.zeroValue171
 t51 := Tryz.underlying213
 a51 := Tryz.isAgg213
 z51 := Tryz.sizeOf213
 v51 := Tryz.zeroValue213
 t53 := Tryz.underlying215
 a53 := Tryz.isAgg215
 z53 := Tryz.sizeOf215
 v53 := Tryz.zeroValue215
 t131 := Tryz.underlying127
 a131 := Tryz.isAgg127
 z131 := Tryz.sizeOf127
 v131 := Tryz.zeroValue127
 t182 := Tryz.underlying205
 a182 := Tryz.isAgg205
 z182 := Tryz.sizeOf205
 v182 := Tryz.zeroValue205
 t183 := Tryz.underlying206
 a183 := Tryz.isAgg206
 z183 := Tryz.sizeOf206
 v183 := Tryz.zeroValue206
 t218 := Tryz.underlying225
 a218 := Tryz.isAgg225
 z218 := Tryz.sizeOf225
 v218 := Tryz.zeroValue225
 t222 := Tryz.underlying229
 a222 := Tryz.isAgg229
 z222 := Tryz.sizeOf229
 v222 := Tryz.zeroValue229
 t228 := Tryz.underlying235
 a228 := Tryz.isAgg235
 z228 := Tryz.sizeOf235
 v228 := Tryz.zeroValue235
 t229 := Tryz.underlying180
 a229 := Tryz.isAgg180
 z229 := Tryz.sizeOf180
 v229 := Tryz.zeroValue180 }
open Go.Sort Go.RowKit in
theorem Tryz.slices_Sort_int (blk off cap : Nat) (zs : ZI) (w : World) (hH : Holds (Value.int .i64) w blk off zs.toArray) (hblk : blk < w.heap.size) (hsz : zs.length < 4611686018427387904) :
  Calls Tryz.prog 50 #[.slice (some ⟨blk, off, none⟩) zs.length cap] w fun e w' =>
   e = .returned (.tuple #[]) /\ ∃ n os, w' = grow (putRow (Value.int .i64) (Sort.ahead w n) blk off (zs.mergeSort fun x y => decide (x <= y)).toArray) os := Any.slices_Sort_int Tryz.lays189 blk off cap zs w hH hblk hsz
def Tryz.laysNm220_ren : Go.Shelf.Ren := ⟨fun | 20 => 51 | n => n, fun | 22 => 31 | 3 => 3 | 4 => 4 | 0 => 0 | n => n, fun | n => n⟩
theorem Tryz.laysNm220 : Go.Proofs.Lays2.n20 Tryz.prog Tryz.laysNm220_ren := {
 mixed := by kernel_rfl
 f20 := Tryz.func51.trans (congrArg some (by kernel_rfl))
 t0 := Tryz.underlying0
 a0 := Tryz.isAgg0
 z0 := Tryz.sizeOf0
 v0 := Tryz.zeroValue0
 t3 := Tryz.underlying3
 a3 := Tryz.isAgg3
 z3 := Tryz.sizeOf3
 v3 := Tryz.zeroValue3
 t4 := Tryz.underlying4
 a4 := Tryz.isAgg4
 z4 := Tryz.sizeOf4
 v4 := Tryz.zeroValue4
 t22 := Tryz.underlying31
 a22 := Tryz.isAgg31
 z22 := Tryz.sizeOf31
 v22 := Tryz.zeroValue31
 i3 := by kernel_rfl }
open Go.RowKit Go.Lib Go.Sort in
theorem Tryz.slices_Compact_int (blk off cap : Nat) (zs : ZI) (w : World) (hH : Holds (Value.int .i64) w blk off zs.toArray) (hsz : zs.length <= 9223372036854775807) (hcap : zs.length <= cap) :
  Calls Tryz.prog 51 #[.slice (some ⟨blk, off, none⟩) zs.length cap] w fun e w' => e = .returned (.slice (some ⟨blk, off, none⟩) (Lib.compact zs).length cap) /\ ∃ q, w' = putRow (Value.int .i64) (Sort.ahead w q) blk off (Lib.compact zs ++ List.replicate (zs.length - (Lib.compact zs).length) 0).toArray := Any.slices_Compact_int Tryz.laysNm220 blk off cap zs w hH hsz hcap
end Go.Proofs.YtpkljcgihobaiaaGreat
