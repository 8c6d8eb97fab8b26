/-
  The shelf's contracts of slices.Sort and slices.Compact at []int, laid for this program (printed by the shelf's own tool, cut by wip/gen_calk.py).
-/
import Derived.Shelf.Sort.Plain
import Derived.Shelf.Slices.CompactI
import Derived.Shelf.Slices.In.SortNone
import Derived.Test.YteckkdmgkikeaaaDoorCalA
import Derived.WalkKit
import Derived.WalkSpells
import Derived.WalkLawsBesides
namespace Go.Proofs
open Go.Shelf Go.Sort Go.RowKit Go.Lib
def Tryd.lays189_ren : Go.Shelf.Ren := ⟨fun | 189 => 95 | 125 => 133 | 257 => 132 | 128 => 172 | 129 => 173 | 294 => 163 | 295 => 164 | 296 => 165 | 297 => 166 | 298 => 167 | 299 => 168 | 216 => 169 | 300 => 170 | 301 => 171 | 328 => 185 | 329 => 186 | 330 => 187 | 331 => 188 | 332 => 189 | 215 => 190 | 343 => 191 | n => n, fun | 28 => 39 | 3 => 3 | 46 => 186 | 0 => 0 | 51 => 214 | 53 => 216 | 4 => 4 | 183 => 207 | 182 => 206 | 131 => 138 | 5 => 5 | 9 => 9 | 218 => 226 | 222 => 230 | 228 => 232 | 229 => 233 | n => n, fun | n => n⟩
theorem Tryd.lays189 : Go.Proofs.Lays.n189 Tryd.prog Tryd.lays189_ren := {
  mixed := by kernel_rfl
  f125 := Tryd.func133.trans (congrArg some (by kernel_rfl))
  f128 := Tryd.func172.trans (congrArg some (by kernel_rfl))
  f129 := Tryd.func173.trans (congrArg some (by kernel_rfl))
  f189 := Tryd.func95.trans (congrArg some (by kernel_rfl))
  f215 := Tryd.func190.trans (congrArg some (by kernel_rfl))
  f216 := Tryd.func169.trans (congrArg some (by kernel_rfl))
  f257 := Tryd.func132.trans (congrArg some (by kernel_rfl))
  f294 := Tryd.func163.trans (congrArg some (by kernel_rfl))
  f295 := Tryd.func164.trans (congrArg some (by kernel_rfl))
  f296 := Tryd.func165.trans (congrArg some (by kernel_rfl))
  f297 := Tryd.func166.trans (congrArg some (by kernel_rfl))
  f298 := Tryd.func167.trans (congrArg some (by kernel_rfl))
  f299 := Tryd.func168.trans (congrArg some (by kernel_rfl))
  f300 := Tryd.func170.trans (congrArg some (by kernel_rfl))
  f301 := Tryd.func171.trans (congrArg some (by kernel_rfl))
  f328 := Tryd.func185.trans (congrArg some (by kernel_rfl))
  f329 := Tryd.func186.trans (congrArg some (by kernel_rfl))
  f330 := Tryd.func187.trans (congrArg some (by kernel_rfl))
  f331 := Tryd.func188.trans (congrArg some (by kernel_rfl))
  f332 := Tryd.func189.trans (congrArg some (by kernel_rfl))
  f343 := Tryd.func191.trans (congrArg some (by kernel_rfl))
  t0 := Tryd.underlying0
  a0 := Tryd.isAgg0
  z0 := Tryd.sizeOf0
  v0 := Tryd.zeroValue0
  t3 := Tryd.underlying3
  a3 := Tryd.isAgg3
  z3 := Tryd.sizeOf3
  v3 := Tryd.zeroValue3
  t4 := Tryd.underlying4
  a4 := Tryd.isAgg4
  z4 := Tryd.sizeOf4
  v4 := Tryd.zeroValue4
  t5 := Tryd.underlying5
  a5 := Tryd.isAgg5
  z5 := Tryd.sizeOf5
  v5 := Tryd.zeroValue5
  t9 := Tryd.underlying9
  a9 := Tryd.isAgg9
  z9 := Tryd.sizeOf9
  v9 := Tryd.zeroValue9
  t28 := Tryd.underlying39
  a28 := Tryd.isAgg39
  z28 := Tryd.sizeOf39
  v28 := Tryd.zeroValue39
  t46 := Tryd.underlying186
  a46 := Tryd.isAgg186
  z46 := Tryd.sizeOf186
  v46 := Tryd.zeroValue186
  t51 := Tryd.underlying214
  a51 := Tryd.isAgg214
  z51 := Tryd.sizeOf214
  v51 := Tryd.zeroValue214
  t53 := Tryd.underlying216
  a53 := Tryd.isAgg216
  z53 := Tryd.sizeOf216
  v53 := Tryd.zeroValue216
  t131 := Tryd.underlying138
  a131 := Tryd.isAgg138
  z131 := Tryd.sizeOf138
  v131 := Tryd.zeroValue138
  t182 := Tryd.underlying206
  a182 := Tryd.isAgg206
  z182 := Tryd.sizeOf206
  v182 := Tryd.zeroValue206
  t183 := Tryd.underlying207
  a183 := Tryd.isAgg207
  z183 := Tryd.sizeOf207
  v183 := Tryd.zeroValue207
  t218 := Tryd.underlying226
  a218 := Tryd.isAgg226
  z218 := Tryd.sizeOf226
  v218 := Tryd.zeroValue226
  t222 := Tryd.underlying230
  a222 := Tryd.isAgg230
  z222 := Tryd.sizeOf230
  v222 := Tryd.zeroValue230
  t228 := Tryd.underlying232
  a228 := Tryd.isAgg232
  z228 := Tryd.sizeOf232
  v228 := Tryd.zeroValue232
  t229 := Tryd.underlying233
  a229 := Tryd.isAgg233
  z229 := Tryd.sizeOf233
  v229 := Tryd.zeroValue233 }
theorem Tryd.slices_Sort_int (blk off cap : Nat) (zs : List Int) (w : World) (hH : Holds (Value.int .i64) w blk off zs.toArray) (hblk : blk < w.heap.size) (hsz : zs.length < 4611686018427387904) :
    Calls Tryd.prog 95 #[.slice (some ⟨blk, off, none⟩) zs.length cap] w fun e w' =>
      e = .returned (.tuple #[]) ∧ ∃ n os, w' = grow (putRow (Value.int .i64) (Sort.ahead w n) blk off (zs.mergeSort fun x y => decide (x ≤ y)).toArray) os := Any.slices_Sort_int Tryd.lays189 blk off cap zs w hH hblk hsz
def Tryd.laysNm220_ren : Go.Shelf.Ren := ⟨fun | 20 => 96 | n => n, fun | 22 => 39 | 3 => 3 | 4 => 4 | 0 => 0 | n => n, fun | n => n⟩
theorem Tryd.laysNm220 : Go.Proofs.Lays2.n20 Tryd.prog Tryd.laysNm220_ren := {
  mixed := by kernel_rfl
  f20 := Tryd.func96.trans (congrArg some (by kernel_rfl))
  t0 := Tryd.underlying0
  a0 := Tryd.isAgg0
  z0 := Tryd.sizeOf0
  v0 := Tryd.zeroValue0
  t3 := Tryd.underlying3
  a3 := Tryd.isAgg3
  z3 := Tryd.sizeOf3
  v3 := Tryd.zeroValue3
  t4 := Tryd.underlying4
  a4 := Tryd.isAgg4
  z4 := Tryd.sizeOf4
  v4 := Tryd.zeroValue4
  t22 := Tryd.underlying39
  a22 := Tryd.isAgg39
  z22 := Tryd.sizeOf39
  v22 := Tryd.zeroValue39
  i3 := by kernel_rfl }
theorem Tryd.slices_Compact_int (blk off cap : Nat) (zs : List Int) (w : World) (hH : Holds (Value.int .i64) w blk off zs.toArray) (hsz : zs.length ≤ 9223372036854775807) (hcap : zs.length ≤ cap) :
    Calls Tryd.prog 96 #[.slice (some ⟨blk, off, none⟩) zs.length cap] w fun e w' => e = .returned (.slice (some ⟨blk, off, none⟩) (Lib.compact zs).length cap) ∧ ∃ q, w' = putRow (Value.int .i64) (Sort.ahead w q) blk off (Lib.compact zs ++ List.replicate (zs.length - (Lib.compact zs).length) 0).toArray := Any.slices_Compact_int Tryd.laysNm220 blk off cap zs w hH hsz hcap
theorem Tryd.slices_Compact_int_empty (a : Option Addr) (cap : Nat) (w : World) :
    Calls Tryd.prog 96 #[.slice a 0 cap] w fun e w' => e = .returned (.slice a 0 cap) ∧ w' = w := Any.slices_Compact_int_empty Tryd.laysNm220 a cap w
theorem Tryd.slices_Sort_int_none (p : Option Addr) (cap : Nat) (w : World) :
    Calls Tryd.prog 95 #[.slice p 0 cap] w fun e w' => e = .returned (.tuple #[]) ∧ w' = w := Any.slices_Sort_int_none Tryd.lays189 p cap w
end Go.Proofs
