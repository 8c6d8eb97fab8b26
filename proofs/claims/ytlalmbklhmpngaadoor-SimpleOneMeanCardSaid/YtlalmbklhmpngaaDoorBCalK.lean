/-
  The shelf's contracts of slices.Sort and slices.Compact at []int, laid for this program (printed by the shelf's own tool, cut by wip/gen_calk.py).
slices.Sort and slices.Compact of a row of numbers that the call itself has built.
-/
import Derived.Shelf.Sort.Plain
import Derived.Shelf.Slices.CompactI
import Derived.Shelf.Slices.In.SortNone
import Derived.Test.YtlalmbklhmpngaaDoorBCalA
import Derived.WalkKit
import Derived.WalkSpells
import Derived.WalkLawsBesides
import Derived.Lib.OwnBridge
import Derived.Sort.OwnSortedInts
namespace Go.Proofs
open Go.Shelf Go.Sort Go.RowKit Go.Lib
def Tryd.lays189_ren : Go.Shelf.Ren := ⟨fun | 189 => 95 | 125 => 112 | 257 => 111 | 128 => 126 | 129 => 127 | 294 => 117 | 295 => 118 | 296 => 119 | 297 => 120 | 298 => 121 | 299 => 122 | 216 => 123 | 300 => 124 | 301 => 125 | 328 => 129 | 329 => 130 | 330 => 131 | 331 => 132 | 332 => 133 | 215 => 134 | 343 => 135 | n => n, fun | 28 => 38 | 3 => 3 | 46 => 153 | 0 => 0 | 51 => 166 | 53 => 168 | 4 => 4 | 183 => 159 | 182 => 158 | 131 => 118 | 5 => 5 | 9 => 9 | 218 => 170 | 222 => 174 | 228 => 176 | 229 => 177 | n => n, fun | n => n⟩
theorem Tryd.lays189 : Go.Proofs.Lays.n189 Tryd.prog Tryd.lays189_ren := {
  mixed := by kernel_rfl
  f125 := Tryd.func112.trans (congrArg some (by kernel_rfl))
  f128 := Tryd.func126.trans (congrArg some (by kernel_rfl))
  f129 := Tryd.func127.trans (congrArg some (by kernel_rfl))
  f189 := Tryd.func95.trans (congrArg some (by kernel_rfl))
  f215 := Tryd.func134.trans (congrArg some (by kernel_rfl))
  f216 := Tryd.func123.trans (congrArg some (by kernel_rfl))
  f257 := Tryd.func111.trans (congrArg some (by kernel_rfl))
  f294 := Tryd.func117.trans (congrArg some (by kernel_rfl))
  f295 := Tryd.func118.trans (congrArg some (by kernel_rfl))
  f296 := Tryd.func119.trans (congrArg some (by kernel_rfl))
  f297 := Tryd.func120.trans (congrArg some (by kernel_rfl))
  f298 := Tryd.func121.trans (congrArg some (by kernel_rfl))
  f299 := Tryd.func122.trans (congrArg some (by kernel_rfl))
  f300 := Tryd.func124.trans (congrArg some (by kernel_rfl))
  f301 := Tryd.func125.trans (congrArg some (by kernel_rfl))
  f328 := Tryd.func129.trans (congrArg some (by kernel_rfl))
  f329 := Tryd.func130.trans (congrArg some (by kernel_rfl))
  f330 := Tryd.func131.trans (congrArg some (by kernel_rfl))
  f331 := Tryd.func132.trans (congrArg some (by kernel_rfl))
  f332 := Tryd.func133.trans (congrArg some (by kernel_rfl))
  f343 := Tryd.func135.trans (congrArg some (by kernel_rfl))
  t0 := Tryd.underlying0
  a0 := Tryd.isAgg0
  z0 := Tryd.sizeOf0
  v0 := Tryd.zeroValue0
  t3 := Tryd.underlying3
  a3 := Tryd.isAgg3
  z3 := Tryd.sizeOf3
  v3 := Tryd.zeroValue3
  t4 := Tryd.underlying4
  a4 := Tryd.isAgg4
  z4 := Tryd.sizeOf4
  v4 := Tryd.zeroValue4
  t5 := Tryd.underlying5
  a5 := Tryd.isAgg5
  z5 := Tryd.sizeOf5
  v5 := Tryd.zeroValue5
  t9 := Tryd.underlying9
  a9 := Tryd.isAgg9
  z9 := Tryd.sizeOf9
  v9 := Tryd.zeroValue9
  t28 := Tryd.underlying38
  a28 := Tryd.isAgg38
  z28 := Tryd.sizeOf38
  v28 := Tryd.zeroValue38
  t46 := Tryd.underlying153
  a46 := Tryd.isAgg153
  z46 := Tryd.sizeOf153
  v46 := Tryd.zeroValue153
  t51 := Tryd.underlying166
  a51 := Tryd.isAgg166
  z51 := Tryd.sizeOf166
  v51 := Tryd.zeroValue166
  t53 := Tryd.underlying168
  a53 := Tryd.isAgg168
  z53 := Tryd.sizeOf168
  v53 := Tryd.zeroValue168
  t131 := Tryd.underlying118
  a131 := Tryd.isAgg118
  z131 := Tryd.sizeOf118
  v131 := Tryd.zeroValue118
  t182 := Tryd.underlying158
  a182 := Tryd.isAgg158
  z182 := Tryd.sizeOf158
  v182 := Tryd.zeroValue158
  t183 := Tryd.underlying159
  a183 := Tryd.isAgg159
  z183 := Tryd.sizeOf159
  v183 := Tryd.zeroValue159
  t218 := Tryd.underlying170
  a218 := Tryd.isAgg170
  z218 := Tryd.sizeOf170
  v218 := Tryd.zeroValue170
  t222 := Tryd.underlying174
  a222 := Tryd.isAgg174
  z222 := Tryd.sizeOf174
  v222 := Tryd.zeroValue174
  t228 := Tryd.underlying176
  a228 := Tryd.isAgg176
  z228 := Tryd.sizeOf176
  v228 := Tryd.zeroValue176
  t229 := Tryd.underlying177
  a229 := Tryd.isAgg177
  z229 := Tryd.sizeOf177
  v229 := Tryd.zeroValue177 }
theorem Tryd.slices_Sort_int (blk off cap : Nat) (zs : List Int) (w : World) (hH : Holds (Value.int .i64) w blk off zs.toArray) (hblk : blk < w.heap.size) (hsz : zs.length < 4611686018427387904) :
    Calls Tryd.prog 95 #[.slice (some ⟨blk, off, none⟩) zs.length cap] w fun e w' =>
      e = .returned (.tuple #[]) ∧ ∃ n os, w' = grow (putRow (Value.int .i64) (Sort.ahead w n) blk off (zs.mergeSort fun x y => decide (x ≤ y)).toArray) os := Any.slices_Sort_int Tryd.lays189 blk off cap zs w hH hblk hsz
def Tryd.laysNm220_ren : Go.Shelf.Ren := ⟨fun | 20 => 96 | n => n, fun | 22 => 38 | 3 => 3 | 4 => 4 | 0 => 0 | n => n, fun | n => n⟩
theorem Tryd.laysNm220 : Go.Proofs.Lays2.n20 Tryd.prog Tryd.laysNm220_ren := {
  mixed := by kernel_rfl
  f20 := Tryd.func96.trans (congrArg some (by kernel_rfl))
  t0 := Tryd.underlying0
  a0 := Tryd.isAgg0
  z0 := Tryd.sizeOf0
  v0 := Tryd.zeroValue0
  t3 := Tryd.underlying3
  a3 := Tryd.isAgg3
  z3 := Tryd.sizeOf3
  v3 := Tryd.zeroValue3
  t4 := Tryd.underlying4
  a4 := Tryd.isAgg4
  z4 := Tryd.sizeOf4
  v4 := Tryd.zeroValue4
  t22 := Tryd.underlying38
  a22 := Tryd.isAgg38
  z22 := Tryd.sizeOf38
  v22 := Tryd.zeroValue38
  i3 := by kernel_rfl }
theorem Tryd.slices_Compact_int (blk off cap : Nat) (zs : List Int) (w : World) (hH : Holds (Value.int .i64) w blk off zs.toArray) (hsz : zs.length ≤ 9223372036854775807) (hcap : zs.length ≤ cap) :
    Calls Tryd.prog 96 #[.slice (some ⟨blk, off, none⟩) zs.length cap] w fun e w' => e = .returned (.slice (some ⟨blk, off, none⟩) (Lib.compact zs).length cap) ∧ ∃ q, w' = putRow (Value.int .i64) (Sort.ahead w q) blk off (Lib.compact zs ++ List.replicate (zs.length - (Lib.compact zs).length) 0).toArray := Any.slices_Compact_int Tryd.laysNm220 blk off cap zs w hH hsz hcap
theorem Tryd.slices_Compact_int_empty (a : Option Addr) (cap : Nat) (w : World) :
    Calls Tryd.prog 96 #[.slice a 0 cap] w fun e w' => e = .returned (.slice a 0 cap) ∧ w' = w := Any.slices_Compact_int_empty Tryd.laysNm220 a cap w
theorem Tryd.slices_Sort_int_none (p : Option Addr) (cap : Nat) (w : World) :
    Calls Tryd.prog 95 #[.slice p 0 cap] w fun e w' => e = .returned (.tuple #[]) ∧ w' = w := Any.slices_Sort_int_none Tryd.lays189 p cap w
end Go.Proofs
namespace Go.Proofs.YtlalmbklhmpngaaDoor
open Go.RowKit Go.Shelf Go.Lib Go.Sort

def sortL (zs : List Int) : List Int := zs.mergeSort fun x y => decide (x ≤ y)
theorem sortL_len (zs : List Int) : (sortL zs).length = zs.length := by unfold sortL; simp

theorem putRow_grown {w : World} {g q : Nat} {d : Array Int} : w.grownBy (putRow (Value.int .i64) (Sort.ahead w q) g 0 d) (some g) := by
  refine ⟨rfl, rfl, rfl, by simp [putRow, mapBlock, Sort.ahead], fun k _ hne => ?_⟩
  have : g ≠ k := fun e => hne (by rw [e])
  simp [putRow, mapBlock, Sort.ahead, Array.getElem?_modify, this]
theorem grow_grown {w : World} {os : Array Obj} : w.grownBy (grow w os) none := by
  refine ⟨rfl, rfl, rfl, by simp, fun k hk _ => ?_⟩
  rw [heap_grow_old _ _ hk]

theorem sort_own (B : Nat) (p : Option Addr) (c : Nat) (zs : List Int) (n : Nat) (w : World) (h : w.ownsRow B 3 1 (.slice p n c) n (zs.map (.int .i64))) (hn : n ≤ 1000000) :
    Calls Tryd.prog 95 #[.slice p n c] w fun e w' => e = .returned (.tuple #[]) ∧ w'.ownsRow B 3 1 (.slice p n c) n ((sortL zs).map (.int .i64)) ∧ w.grownBy w' (Value.slice p n c).ownBlock := by
  by_cases hv : (Value.slice p n c) = .slice none 0 0
  · cases hv
    have hz : zs = [] := by have := h.1; simpa using this
    subst hz
    refine (Tryd.slices_Sort_int_none none 0 w).mono ?_
    rintro e w' ⟨rfl, rfl⟩
    exact ⟨rfl, (by simpa [sortL] using h), ⟨rfl, rfl, rfl, Nat.le_refl _, fun _ _ _ => rfl⟩⟩
  · obtain ⟨g, cap, hg, hb, hlt, hc, hm, hl, hH⟩ := holds_of_ownsRow h hv
    cases hg
    subst hl
    refine (Tryd.slices_Sort_int g 0 c zs w hH hlt (by omega)).mono ?_
    rintro e w' ⟨rfl, q, os, rfl⟩
    have h1 := ownsRow_putRow (ys := sortL zs) (q := q) (k := zs.length) h (sortL_len zs) (Nat.le_refl _)
    have e1 : (sortL zs).take zs.length = sortL zs := by rw [← sortL_len zs]; exact List.take_length
    rw [e1] at h1
    exact ⟨rfl, h1.kept grow_grown (.inr (by simp [Value.ownBlock])), grownBy_sortedI _⟩

theorem compact_own (B : Nat) (p : Option Addr) (c : Nat) (zs : List Int) (n : Nat) (w : World) (h : w.ownsRow B 3 1 (.slice p n c) n (zs.map (.int .i64))) (hn : n ≤ 1000000) :
    Calls Tryd.prog 96 #[.slice p n c] w fun e w' => e = .returned (.slice p (Lib.compact zs).length c) ∧ w'.ownsRow B 3 1 (.slice p (Lib.compact zs).length c) (Lib.compact zs).length ((Lib.compact zs).map (.int .i64)) ∧ w.grownBy w' (Value.slice p n c).ownBlock := by
  by_cases hv : (Value.slice p n c) = .slice none 0 0
  · cases hv
    have hz : zs = [] := by have := h.1; simpa using this
    subst hz
    refine (Tryd.slices_Compact_int_empty none 0 w).mono ?_
    rintro e w' ⟨rfl, rfl⟩
    exact ⟨rfl, h, ⟨rfl, rfl, rfl, Nat.le_refl _, fun _ _ _ => rfl⟩⟩
  · obtain ⟨g, cap, hg, hb, hlt, hc, hm, hl, hH⟩ := holds_of_ownsRow h hv
    cases hg
    subst hl
    refine (Tryd.slices_Compact_int g 0 c zs w hH (by omega) hc).mono ?_
    rintro e w' ⟨rfl, q, rfl⟩
    have hle : (Lib.compact zs).length ≤ zs.length := by
      unfold Lib.compact compactUpTo
      rw [List.length_map]
      exact Nat.le_trans (List.length_filter_le _ _) (by simp)
    have h1 := ownsRow_putRow (ys := Lib.compact zs ++ List.replicate (zs.length - (Lib.compact zs).length) 0) (q := q) (k := (Lib.compact zs).length) h (by simp; omega) hle
    rw [List.take_left' rfl] at h1
    exact ⟨rfl, h1, putRow_grown⟩
end Go.Proofs.YtlalmbklhmpngaaDoor
