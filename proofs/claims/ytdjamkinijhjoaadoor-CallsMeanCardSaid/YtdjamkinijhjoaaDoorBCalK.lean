/-
  The shelf's contracts of slices.Sort and slices.Compact at []int, laid for this program (printed by the shelf's own tool, cut by wip/gen_calk.py).
slices.Sort and slices.Compact of a row of numbers that the call itself has built.
-/
import Derived.Shelf.Sort.Plain
import Derived.Shelf.Slices.CompactI
import Derived.Shelf.Slices.In.SortNone
import Derived.Test.YtdjamkinijhjoaaDoorBCalA
import Derived.WalkKit
import Derived.WalkSpells
import Derived.WalkLawsBesides
import Derived.Lib.OwnBridge
import Derived.Sort.OwnSortedInts
namespace Go.Proofs
open Go.Shelf Go.Sort Go.RowKit Go.Lib
def Tryd.lays189_ren : Go.Shelf.Ren := ⟨fun | 189 => 122 | 125 => 139 | 257 => 138 | 128 => 153 | 129 => 154 | 294 => 144 | 295 => 145 | 296 => 146 | 297 => 147 | 298 => 148 | 299 => 149 | 216 => 150 | 300 => 151 | 301 => 152 | 328 => 157 | 329 => 158 | 330 => 159 | 331 => 160 | 332 => 161 | 215 => 162 | 343 => 163 | n => n, fun | 28 => 46 | 3 => 3 | 46 => 162 | 0 => 0 | 51 => 188 | 53 => 191 | 4 => 4 | 183 => 205 | 182 => 204 | 131 => 128 | 5 => 5 | 9 => 9 | 218 => 213 | 222 => 217 | 228 => 219 | 229 => 220 | n => n, fun | n => n⟩
theorem Tryd.lays189 : Go.Proofs.Lays.n189 Tryd.prog Tryd.lays189_ren := {
  mixed := by kernel_rfl
  f125 := Tryd.func139.trans (congrArg some (by kernel_rfl))
  f128 := Tryd.func153.trans (congrArg some (by kernel_rfl))
  f129 := Tryd.func154.trans (congrArg some (by kernel_rfl))
  f189 := Tryd.func122.trans (congrArg some (by kernel_rfl))
  f215 := Tryd.func162.trans (congrArg some (by kernel_rfl))
  f216 := Tryd.func150.trans (congrArg some (by kernel_rfl))
  f257 := Tryd.func138.trans (congrArg some (by kernel_rfl))
  f294 := Tryd.func144.trans (congrArg some (by kernel_rfl))
  f295 := Tryd.func145.trans (congrArg some (by kernel_rfl))
  f296 := Tryd.func146.trans (congrArg some (by kernel_rfl))
  f297 := Tryd.func147.trans (congrArg some (by kernel_rfl))
  f298 := Tryd.func148.trans (congrArg some (by kernel_rfl))
  f299 := Tryd.func149.trans (congrArg some (by kernel_rfl))
  f300 := Tryd.func151.trans (congrArg some (by kernel_rfl))
  f301 := Tryd.func152.trans (congrArg some (by kernel_rfl))
  f328 := Tryd.func157.trans (congrArg some (by kernel_rfl))
  f329 := Tryd.func158.trans (congrArg some (by kernel_rfl))
  f330 := Tryd.func159.trans (congrArg some (by kernel_rfl))
  f331 := Tryd.func160.trans (congrArg some (by kernel_rfl))
  f332 := Tryd.func161.trans (congrArg some (by kernel_rfl))
  f343 := Tryd.func163.trans (congrArg some (by kernel_rfl))
  t0 := Tryd.underlying0
  a0 := Tryd.isAgg0
  z0 := Tryd.sizeOf0
  v0 := Tryd.zeroValue0
  t3 := Tryd.underlying3
  a3 := Tryd.isAgg3
  z3 := Tryd.sizeOf3
  v3 := Tryd.zeroValue3
  t4 := Tryd.underlying4
  a4 := Tryd.isAgg4
  z4 := Tryd.sizeOf4
  v4 := Tryd.zeroValue4
  t5 := Tryd.underlying5
  a5 := Tryd.isAgg5
  z5 := Tryd.sizeOf5
  v5 := Tryd.zeroValue5
  t9 := Tryd.underlying9
  a9 := Tryd.isAgg9
  z9 := Tryd.sizeOf9
  v9 := Tryd.zeroValue9
  t28 := Tryd.underlying46
  a28 := Tryd.isAgg46
  z28 := Tryd.sizeOf46
  v28 := Tryd.zeroValue46
  t46 := Tryd.underlying162
  a46 := Tryd.isAgg162
  z46 := Tryd.sizeOf162
  v46 := Tryd.zeroValue162
  t51 := Tryd.underlying188
  a51 := Tryd.isAgg188
  z51 := Tryd.sizeOf188
  v51 := Tryd.zeroValue188
  t53 := Tryd.underlying191
  a53 := Tryd.isAgg191
  z53 := Tryd.sizeOf191
  v53 := Tryd.zeroValue191
  t131 := Tryd.underlying128
  a131 := Tryd.isAgg128
  z131 := Tryd.sizeOf128
  v131 := Tryd.zeroValue128
  t182 := Tryd.underlying204
  a182 := Tryd.isAgg204
  z182 := Tryd.sizeOf204
  v182 := Tryd.zeroValue204
  t183 := Tryd.underlying205
  a183 := Tryd.isAgg205
  z183 := Tryd.sizeOf205
  v183 := Tryd.zeroValue205
  t218 := Tryd.underlying213
  a218 := Tryd.isAgg213
  z218 := Tryd.sizeOf213
  v218 := Tryd.zeroValue213
  t222 := Tryd.underlying217
  a222 := Tryd.isAgg217
  z222 := Tryd.sizeOf217
  v222 := Tryd.zeroValue217
  t228 := Tryd.underlying219
  a228 := Tryd.isAgg219
  z228 := Tryd.sizeOf219
  v228 := Tryd.zeroValue219
  t229 := Tryd.underlying220
  a229 := Tryd.isAgg220
  z229 := Tryd.sizeOf220
  v229 := Tryd.zeroValue220 }
theorem Tryd.slices_Sort_int (blk off cap : Nat) (zs : List Int) (w : World) (hH : Holds (Value.int .i64) w blk off zs.toArray) (hblk : blk < w.heap.size) (hsz : zs.length < 4611686018427387904) :
    Calls Tryd.prog 122 #[.slice (some ⟨blk, off, none⟩) zs.length cap] w fun e w' =>
      e = .returned (.tuple #[]) ∧ ∃ n os, w' = grow (putRow (Value.int .i64) (Sort.ahead w n) blk off (zs.mergeSort fun x y => decide (x ≤ y)).toArray) os := Any.slices_Sort_int Tryd.lays189 blk off cap zs w hH hblk hsz
def Tryd.laysNm220_ren : Go.Shelf.Ren := ⟨fun | 20 => 123 | n => n, fun | 22 => 46 | 3 => 3 | 4 => 4 | 0 => 0 | n => n, fun | n => n⟩
theorem Tryd.laysNm220 : Go.Proofs.Lays2.n20 Tryd.prog Tryd.laysNm220_ren := {
  mixed := by kernel_rfl
  f20 := Tryd.func123.trans (congrArg some (by kernel_rfl))
  t0 := Tryd.underlying0
  a0 := Tryd.isAgg0
  z0 := Tryd.sizeOf0
  v0 := Tryd.zeroValue0
  t3 := Tryd.underlying3
  a3 := Tryd.isAgg3
  z3 := Tryd.sizeOf3
  v3 := Tryd.zeroValue3
  t4 := Tryd.underlying4
  a4 := Tryd.isAgg4
  z4 := Tryd.sizeOf4
  v4 := Tryd.zeroValue4
  t22 := Tryd.underlying46
  a22 := Tryd.isAgg46
  z22 := Tryd.sizeOf46
  v22 := Tryd.zeroValue46
  i3 := by kernel_rfl }
theorem Tryd.slices_Compact_int (blk off cap : Nat) (zs : List Int) (w : World) (hH : Holds (Value.int .i64) w blk off zs.toArray) (hsz : zs.length ≤ 9223372036854775807) (hcap : zs.length ≤ cap) :
    Calls Tryd.prog 123 #[.slice (some ⟨blk, off, none⟩) zs.length cap] w fun e w' => e = .returned (.slice (some ⟨blk, off, none⟩) (Lib.compact zs).length cap) ∧ ∃ q, w' = putRow (Value.int .i64) (Sort.ahead w q) blk off (Lib.compact zs ++ List.replicate (zs.length - (Lib.compact zs).length) 0).toArray := Any.slices_Compact_int Tryd.laysNm220 blk off cap zs w hH hsz hcap
theorem Tryd.slices_Compact_int_empty (a : Option Addr) (cap : Nat) (w : World) :
    Calls Tryd.prog 123 #[.slice a 0 cap] w fun e w' => e = .returned (.slice a 0 cap) ∧ w' = w := Any.slices_Compact_int_empty Tryd.laysNm220 a cap w
theorem Tryd.slices_Sort_int_none (p : Option Addr) (cap : Nat) (w : World) :
    Calls Tryd.prog 122 #[.slice p 0 cap] w fun e w' => e = .returned (.tuple #[]) ∧ w' = w := Any.slices_Sort_int_none Tryd.lays189 p cap w
end Go.Proofs
namespace Go.Proofs.YtdjamkinijhjoaaDoor
open Go.RowKit Go.Shelf Go.Lib Go.Sort

def sortL (zs : List Int) : List Int := zs.mergeSort fun x y => decide (x ≤ y)
theorem sortL_len (zs : List Int) : (sortL zs).length = zs.length := by unfold sortL; simp

theorem putRow_grown {w : World} {g q : Nat} {d : Array Int} : w.grownBy (putRow (Value.int .i64) (Sort.ahead w q) g 0 d) (some g) := by
  refine ⟨rfl, rfl, rfl, by simp [putRow, mapBlock, Sort.ahead], fun k _ hne => ?_⟩
  have : g ≠ k := fun e => hne (by rw [e])
  simp [putRow, mapBlock, Sort.ahead, Array.getElem?_modify, this]
theorem grow_grown {w : World} {os : Array Obj} : w.grownBy (grow w os) none := by
  refine ⟨rfl, rfl, rfl, by simp, fun k hk _ => ?_⟩
  rw [heap_grow_old _ _ hk]

theorem sort_own (B : Nat) (p : Option Addr) (c : Nat) (zs : List Int) (n : Nat) (w : World) (h : w.ownsRow B 3 1 (.slice p n c) n (zs.map (.int .i64))) (hn : n ≤ 1000000) :
    Calls Tryd.prog 122 #[.slice p n c] w fun e w' => e = .returned (.tuple #[]) ∧ w'.ownsRow B 3 1 (.slice p n c) n ((sortL zs).map (.int .i64)) ∧ w.grownBy w' (Value.slice p n c).ownBlock := by
  by_cases hv : (Value.slice p n c) = .slice none 0 0
  · cases hv
    have hz : zs = [] := by have := h.1; simpa using this
    subst hz
    refine (Tryd.slices_Sort_int_none none 0 w).mono ?_
    rintro e w' ⟨rfl, rfl⟩
    exact ⟨rfl, (by simpa [sortL] using h), ⟨rfl, rfl, rfl, Nat.le_refl _, fun _ _ _ => rfl⟩⟩
  · obtain ⟨g, cap, hg, hb, hlt, hc, hm, hl, hH⟩ := holds_of_ownsRow h hv
    cases hg
    subst hl
    refine (Tryd.slices_Sort_int g 0 c zs w hH hlt (by omega)).mono ?_
    rintro e w' ⟨rfl, q, os, rfl⟩
    have h1 := ownsRow_putRow (ys := sortL zs) (q := q) (k := zs.length) h (sortL_len zs) (Nat.le_refl _)
    have e1 : (sortL zs).take zs.length = sortL zs := by rw [← sortL_len zs]; exact List.take_length
    rw [e1] at h1
    exact ⟨rfl, h1.kept grow_grown (.inr (by simp [Value.ownBlock])), grownBy_sortedI _⟩

theorem compact_own (B : Nat) (p : Option Addr) (c : Nat) (zs : List Int) (n : Nat) (w : World) (h : w.ownsRow B 3 1 (.slice p n c) n (zs.map (.int .i64))) (hn : n ≤ 1000000) :
    Calls Tryd.prog 123 #[.slice p n c] w fun e w' => e = .returned (.slice p (Lib.compact zs).length c) ∧ w'.ownsRow B 3 1 (.slice p (Lib.compact zs).length c) (Lib.compact zs).length ((Lib.compact zs).map (.int .i64)) ∧ w.grownBy w' (Value.slice p n c).ownBlock := by
  by_cases hv : (Value.slice p n c) = .slice none 0 0
  · cases hv
    have hz : zs = [] := by have := h.1; simpa using this
    subst hz
    refine (Tryd.slices_Compact_int_empty none 0 w).mono ?_
    rintro e w' ⟨rfl, rfl⟩
    exact ⟨rfl, h, ⟨rfl, rfl, rfl, Nat.le_refl _, fun _ _ _ => rfl⟩⟩
  · obtain ⟨g, cap, hg, hb, hlt, hc, hm, hl, hH⟩ := holds_of_ownsRow h hv
    cases hg
    subst hl
    refine (Tryd.slices_Compact_int g 0 c zs w hH (by omega) hc).mono ?_
    rintro e w' ⟨rfl, q, rfl⟩
    have hle : (Lib.compact zs).length ≤ zs.length := by
      unfold Lib.compact compactUpTo
      rw [List.length_map]
      exact Nat.le_trans (List.length_filter_le _ _) (by simp)
    have h1 := ownsRow_putRow (ys := Lib.compact zs ++ List.replicate (zs.length - (Lib.compact zs).length) 0) (q := q) (k := (Lib.compact zs).length) h (by simp; omega) hle
    rw [List.take_left' rfl] at h1
    exact ⟨rfl, h1, putRow_grown⟩
end Go.Proofs.YtdjamkinijhjoaaDoor
